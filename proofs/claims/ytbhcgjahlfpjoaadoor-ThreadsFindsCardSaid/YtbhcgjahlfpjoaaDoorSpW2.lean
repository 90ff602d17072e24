/- those: what of the stretches is right. -/
import Derived.Test.YtbhcgjahlfpjoaaDoorSpW1
import Derived.Sort.QuietIn
import Derived.Test.YtbhcgjahlfpjoaaDoorRgRound
namespace Go.Proofs.YtbhcgjahlfpjoaaDoor
open Go.RowKit Go.Shelf

attribute [local go_sem] Oper.semAt_some

theorem ownsRow_set {w : World} {base : Nat} {e : TypeId} {size n c g : Nat} {xs : List Value} (h : w.ownsRow base e size (.slice (some ⟨g, 0, none⟩) n c) n xs) (i : Nat) (u : Value) :
    (w.setCell ⟨g, i, none⟩ u).ownsRow base e size (.slice (some ⟨g, 0, none⟩) n c) n (xs.set i u) := by
  have hl := h.1
  obtain ⟨cur, hg, hb, h3, h4, h1, h2⟩ := own_blk h
  refine ⟨by rw [List.length_set]; exact hl, .inr ⟨g, c, cur.setIfInBounds i u, rfl, hb, hg.set i u, h1, h2, by rw [Array.size_setIfInBounds]; exact h3, ?_⟩⟩
  rw [← h4, Array.toList_setIfInBounds, List.take_set]
theorem rgCells_set (s : List Rg) (q : Rg) (x : Int) : (rgCells (s ++ [q])).set (s.length * 2 + 1) (.int .i32 x) = rgCells (s ++ [(q.1, x)]) := by
  rw [rgCells_append, rgCells_append, List.set_append_right _ _ (by rw [rgCells_length]; omega), rgCells_length, show s.length * 2 + 1 - s.length * 2 = 1 by omega]
  rfl

/-- What has been put out when these stretches have come. -/
def outF (is : Int → Bool) (pre : List Sp) : List Rg := (pre.map (·.1)).foldl (stepF is) []
theorem outF_snoc (is : Int → Bool) (pre : List Sp) (x : Sp) : outF is (pre ++ [x]) = stepF is (outF is pre) x.1 := by simp [outF]
theorem putR_len (out : List Rg) (x : Rg) : (putR out x).length ≤ out.length + 1 := by
  unfold putR
  split
  · split
    · simp only [List.length_append, List.length_dropLast, List.length_singleton]; omega
    · simp
  · simp
theorem outF_len' (is : Int → Bool) : ∀ (pre : List Sp) (o : List Rg), ((pre.map (·.1)).foldl (stepF is) o).length ≤ o.length + pre.length
  | [], o => Nat.le_refl _
  | x :: r, o => by
    simp only [List.map_cons, List.foldl_cons, List.length_cons]
    have h1 := outF_len' is r (stepF is o x.1)
    have h2 : (stepF is o x.1).length ≤ o.length + 1 := by
      unfold stepF
      split
      · exact putR_len _ _
      · omega
    omega
theorem outF_len (is : Int → Bool) (pre : List Sp) : (outF is pre).length ≤ pre.length := by
  have := outF_len' is pre []
  rw [List.length_nil, Nat.zero_add] at this
  exact this
theorem putR_mem {out : List Rg} {x : Rg} (hx : 0 ≤ x.1 ∧ x.1 ≤ x.2 ∧ x.2 ≤ maxR) (h : ∀ q ∈ out, 0 ≤ q.1 ∧ q.1 ≤ maxR ∧ 0 ≤ q.2 ∧ q.2 ≤ maxR) : ∀ q ∈ putR out x, 0 ≤ q.1 ∧ q.1 ≤ maxR ∧ 0 ≤ q.2 ∧ q.2 ≤ maxR := by
  intro q hq
  unfold putR at hq
  have hxx : 0 ≤ x.1 ∧ x.1 ≤ maxR ∧ 0 ≤ x.2 ∧ x.2 ≤ maxR := ⟨hx.1, by omega, by omega, hx.2.2⟩
  split at hq
  · rename_i r hr
    split at hq
    · rcases List.mem_append.1 hq with h1 | h1
      · exact h q (List.dropLast_subset _ h1)
      · obtain rfl := List.mem_singleton.1 h1
        have := h r (List.mem_of_getLast? hr)
        exact ⟨this.1, this.2.1, hxx.2.2⟩
    · rcases List.mem_append.1 hq with h1 | h1
      · exact h q h1
      · obtain rfl := List.mem_singleton.1 h1; exact hxx
  · obtain rfl := List.mem_singleton.1 hq; exact hxx
theorem outF_in' (is : Int → Bool) : ∀ (pre : List Sp) (o : List Rg), (∀ q ∈ o, 0 ≤ q.1 ∧ q.1 ≤ maxR ∧ 0 ≤ q.2 ∧ q.2 ≤ maxR) → ∀ q ∈ (pre.map (·.1)).foldl (stepF is) o, 0 ≤ q.1 ∧ q.1 ≤ maxR ∧ 0 ≤ q.2 ∧ q.2 ≤ maxR
  | [], o, h => h
  | x :: r, o, h => by
    simp only [List.map_cons, List.foldl_cons]
    refine outF_in' is r _ ?_
    unfold stepF
    split
    · exact putR_mem x.2.1 h
    · exact h
theorem outF_in (is : Int → Bool) (pre : List Sp) : ∀ q ∈ outF is pre, 0 ≤ q.1 ∧ q.1 ≤ maxR ∧ 0 ≤ q.2 ∧ q.2 ≤ maxR := outF_in' is pre [] fun _ h => by cases h

theorem elRg : ElemOK Tryd.prog 61 66 2 8 := .mk' (z := .agg #[.int .i32 0, .int .i32 0]) Tryd.underlying61 (by kernel_rfl) rfl (by decide)

theorem cell_two_new (w : World) (x y : Value) (t : TypeId) : ∀ j u, [x, y][j]? = some u → (w.alloc (.cells #[x, y] t)).cell? ((⟨w.heap.size, 0, none⟩ : Addr).add j) = some u := by
  intro j u hj
  have hb := Blk.new w t #[x, y]
  match j, hj with
  | 0, hj => simp at hj; subst hj; exact hb.cell 0
  | 1, hj => simp at hj; subst hj; exact hb.cell 1
  | j + 2, hj => simp at hj

/-- A function of one number, that says yes or no, and leaves the world. -/
def IsFn (gf : Nat) (is : Int → Bool) : Prop := (∀ args w, (callFunc gf args).run Tryd.prog w = .ok (.enter gf args) w) ∧
  ∀ (x : Int) (w : World), -9223372036854775808 ≤ x → x ≤ 9223372036854775807 → Calls Tryd.prog gf #[.int .i64 x] w fun e w' => e = .returned (.bool (is x)) ∧ w' = w

set_option maxRecDepth 100000 in
set_option maxHeartbeats 4000000 in
theorem those_any {w : World} {A : Option Addr} {len cap : Nat} {E : List Rg} (is : Int → Bool) (gf : Nat) (hG : IsFn gf is) (hl : E.length = len) (hlen : len ≤ 4000000) (hE : ∀ e ∈ E, EdOK e) (hnil : A = none → len = 0) (hR : Rd w 0 w.heap.size A (edCells E)) :
    Calls Tryd.prog 69 #[.slice A len cap, .func (.func gf) #[] #[]] w fun e w' => ∃ v, e = .returned v ∧ w'.ownsRow w.heap.size 66 2 v (thoseF is E).length (rgCells (thoseF is E)) ∧ Below w.heap.size w w' := by
  refine (callsIn_wide (n := 5)).1 ?_
  obtain ⟨eg, his⟩ := hG
  have hro : Fence.wide.round = none := rfl
  refine callsIn_of_wp_marks Tryd.func69 rfl trivial ?_ hro
  simp only [Tryd.ntmps69, List.size_toArray, List.length_cons, List.length_nil, Nat.reduceAdd, Nat.reduceSub, Array.replicate_succ, Array.replicate_zero, List.push_toArray, List.append_toArray, List.nil_append, List.cons_append]
  gi_wp2_with (refine ⟨trivial, ?_⟩; gi_at_call 72; refine (spans_in Fence.wide 4 trivial hro _ _ _ _).mono ?_; rintro e w' ⟨rfl, rfl⟩)
  have bF := ((Boxed.new w 111 (.func (.func gf) #[] #[])).alloc (.cells #[.slice none 0 0] 61)).alloc (.cells #[.slice A len cap] 144)
  have bO := (Boxed.new (w.alloc (.cells #[.func (.func gf) #[] #[]] 111)) 61 (.slice none 0 0)).alloc (.cells #[.slice A len cap] 144)
  have bL := Boxed.new ((w.alloc (.cells #[.func (.func gf) #[] #[]] 111)).alloc (.cells #[.slice none 0 0] 61)) 144 (.slice A len cap)
  simp only [World.size_alloc] at bO bL
  have hB0 : Below w.heap.size w (((w.alloc (.cells #[.func (.func gf) #[] #[]] 111)).alloc (.cells #[.slice none 0 0] 61)).alloc (.cells #[.slice A len cap] 144)) := (((Below.refl _ w).alloc (Nat.le_refl _) _).alloc (by simp) _).alloc (by simp; omega) _
  have hsz : (((w.alloc (.cells #[.func (.func gf) #[] #[]] 111)).alloc (.cells #[.slice none 0 0] 61)).alloc (.cells #[.slice A len cap] 144)).heap.size = w.heap.size + 3 := by simp
  obtain ⟨W0, hW0⟩ : ∃ W0, ((w.alloc (.cells #[.func (.func gf) #[] #[]] 111)).alloc (.cells #[.slice none 0 0] 61)).alloc (.cells #[.slice A len cap] 144) = W0 := ⟨_, rfl⟩
  rw [hW0] at bF bO bL hB0 hsz ⊢
  clear hW0
  have hR0 : Rd W0 0 w.heap.size A (edCells E) := hR.same (.of_below hB0 (Nat.le_refl _))
  refine wpIn_rangeFunc_ownH hro (by omega) (gf := 76) (lb := #[.pointer (some ⟨w.heap.size + 1 + 1, 0, none⟩)]) rfl trivial (enters_of Tryd.func76 (by kernel_rfl) rfl)
    (spans_stops Fence.wide 4 trivial hro (by omega) (w.heap.size + 1 + 1) w.heap.size A len cap E hl hlen hE hnil W0 (by omega) (by omega) bL.cell hR0) KpE.trans (KpE.putObj (by omega)) (Below.refl _ _) (fun _ => rfl)
    (fun pre W => ((∃ v, Boxed W (w.heap.size + 1) 61 v ∧ W.ownsRow w.heap.size 66 2 v (outF is pre).length (rgCells (outF is pre)) ∧ True) ∧ Boxed W w.heap.size 111 (.func (.func gf) #[] #[])) ∧ Below w.heap.size w W)
    (fun _ _ _ => False)
    (OwnFrom.and (OwnFrom.and (Own.from (holdsRow_own w.heap.size (w.heap.size + 1) 61 66 2 (fun pre => (outF is pre).length) (fun pre => rgCells (outF is pre)) (fun _ _ => True)) _) (Own.from (boxed_own _ _ _) _)) (ownFrom_below (Nat.le_refl _) (by omega)))
    (fun _ _ _ _ _ hs _ _ => hs)
    ⟨⟨⟨_, bO, World.ownsRow_nil _ _ _ _, trivial⟩, bF⟩, hB0⟩
    (fun x a' W => ∃ Bx, w.heap.size + 1 < Bx ∧ Blk W Bx 66 #[.int .i32 x.1.1.1, .int .i32 x.1.1.2] ∧ a' = { tmps := #[.slice A len cap, .func (.func gf) #[] #[], undef, .pointer (some ⟨w.heap.size, 0, none⟩), .slice none 0 0, .pointer (some ⟨w.heap.size + 1, 0, none⟩), .pointer (some ⟨Bx, 0, none⟩), .int .i64 x.1.2, undef, .slice A len cap, .func (.func 76) #[] #[.pointer (some ⟨w.heap.size + 1 + 1, 0, none⟩)], .agg #[.int .i32 x.1.1.1, .int .i32 x.1.1.2], .int .i64 x.1.2, undef, undef, undef, undef, undef, undef, undef, undef, undef, undef, undef, undef, undef, undef, undef, undef, undef, undef, undef, undef, undef, undef, undef, undef, undef, undef, undef, undef, undef, undef, undef, undef, undef, undef], defers := [] })
    (fun x a' _ X Y row hs hg hr => by obtain ⟨Bx, h1, h2, h3⟩ := hs; exact ⟨Bx, h1, h2.grown hg (fun e => by obtain ⟨_, o, ho, hc⟩ := hr _ e; rw [show X.heap[Bx]? = _ from h2] at ho; cases ho; cases hc), h3⟩)
    ?assign ?body ?done ?stop
  case assign =>
    rintro l pre x W K ⟨⟨⟨v, bO1, row, _⟩, bF1⟩, hB1⟩ hK
    simp only [spEnc]
    gi_wp2
    exact hK _ _ ((KeepsOthers.alloc _ _).from _) ((KpE.refl W).alloc hB1.size _) ⟨⟨⟨v, bO1.alloc _, row.alloc _, trivial⟩, bF1.alloc _⟩, hB1.alloc hB1.size _⟩ ⟨W.heap.size, bO1.lt, Blk.new W _ _, rfl⟩
  case body =>
    rintro l pre x a' W hl ⟨r, hr⟩ ⟨⟨⟨v, bO1, row, _⟩, bF1⟩, hB1⟩ ⟨Bx, hBx, bX, rfl⟩ hlt
    have hout := outF_in is pre
    have hol := outF_len is pre
    have hsn := outF_snoc is pre x
    obtain ⟨hx, hx1, hx2⟩ := x.2
    unfold maxR at hx
    have cF := bF1.cell
    have cO := bO1.cell
    have x1 := bX.cell 0
    have x2 := bX.cell 1
    simp only [List.getElem?_toArray, List.getElem?_cons_zero, List.getElem?_cons_succ] at x1 x2
    obtain ⟨B, d, rfl, hmd, hdm⟩ := own_form row
    unfold maxLen at hdm
    have hcall := his x.1.2 W hx1 hx2
    by_cases hi : is x.1.2 = true
    · rw [hi] at hcall
      have hst : outF is (pre ++ [x]) = putR (outF is pre) x.1.1 := by rw [hsn]; unfold stepF; rw [hi]; rfl
      clear hsn
      generalize hm : (outF is pre).length = m at row bO1 cO hmd hol
      have hmi : (m : Int) ≤ 9223372036854775807 := by omega
      rcases List.eq_nil_or_concat (outF is pre) with ho | ⟨s, q, ho⟩
      · rw [ho] at hm row hst
        have hm0 : (m : Int) = 0 := by rw [← hm]; rfl
        have hmn : ¬ (0 : Int) < (m : Int) := by omega
        clear ho hout hmd
        gi_wp2_with (refine ⟨trivial, ?_⟩; gi_at_fn gf; refine (CallsIn.inRound l (callsIn_wide.2 hcall)).mono ?_; rintro e w' ⟨rfl, rfl⟩)
        refine wpIn_region_quiet_round hro (by kernel_rfl) (by kernel_rfl) (by kernel_rfl) ?_
        repeat (gi_big_quiet_step (fail))
        refine wpQuietIn_nil ?_
        rintro _ ⟨nq, rfl⟩
        have hK : KeepsFrom W0.heap.size w' (w'.drewN nq) := ⟨Nat.le_refl _, fun _ _ _ h _ => h⟩
        have hKp : KpE w.heap.size w' (w'.drewN nq) := (KpE.refl _).drewN
        replace hB1 : Below w.heap.size w (w'.drewN nq) := hB1.drewN
        replace bF1 : Boxed (w'.drewN nq) w.heap.size 111 (.func (.func gf) #[] #[]) := bF1
        replace bO1 : Boxed (w'.drewN nq) (w.heap.size + 1) 61 (.slice B m d) := bO1
        replace row : (w'.drewN nq).ownsRow w.heap.size 66 2 (.slice B m d) m (rgCells []) := row
        replace cO : (w'.drewN nq).cell? ⟨w.heap.size + 1, 0, none⟩ = some (.slice B m d) := cO
        replace x1 : (w'.drewN nq).cell? ⟨Bx, 0, none⟩ = some (.int .i32 x.1.1.1) := x1
        replace x2 : (w'.drewN nq).cell? ⟨Bx, 1, none⟩ = some (.int .i32 x.1.1.2) := x2
        generalize w'.drewN nq = V at *
        obtain ⟨i0, z0, hi0, hz0, hz1, hz2, hz3⟩ := elRg.info
        have hsz1 := hB1.size
        have hgt : ¬ maxLen < m + 1 := by unfold maxLen; omega
        clear his hcall
        gi_wp2_with (gi_at_builtin; refine wpListIn_append_own _ rfl _ _ 61 rfl w.heap.size 66 i0 z0 2 8 Tryd.underlying61 hi0 hz0 hz1 hz2 hz3 (by decide) _ m _ rfl (row.alloc _) ⟨V.heap.size, 0, none⟩ 1 1 [.int .i32 x.1.1.1, .int .i32 x.1.1.2] rfl rfl (cell_two_new _ _ _ _) (by simp [Value.oneCell']) (by unfold maxLen; omega) (by omega) (by simp; omega) ?_; intro v' w1 hown' hgrow _; obtain ⟨g', cap', rfl⟩ := ownsRow_succ hown'; obtain ⟨hv1, hv2, hr2, hk2, hb2⟩ := bO1.appended (by decide) row hB1.size (by omega) hown' hgrow; have hc1 := hv1.cell; have hf1 := hv1.frozen)
        have hgrow' : (V.alloc (.cells #[.int .i32 x.1.1.1, .int .i32 x.1.1.2] 66)).grownBy w1 (Value.slice B m d).ownBlock := hgrow
        have hkeep : ∀ (g2 : Nat) (t : TypeId) (cs : Array Value), 66 ≠ t → g2 ≠ w.heap.size + 1 → Blk V g2 t cs → Blk (w1.setCell ⟨w.heap.size + 1, 0, none⟩ (.slice (some ⟨g', 0, none⟩) (m + 1) cap')) g2 t cs := fun g2 t cs hne hne2 hb => ((hb.alloc _).grown hgrow' (own_ne_blk row hb hne)).far (p := ⟨w.heap.size + 1, 0, none⟩) hne2 _
        have he : outF is (pre ++ [x]) = [] ++ [x.1.1] := by rw [hst]; rfl
        refine ⟨hK.trans (hk2.from _), hKp.trans ⟨hb2, fun g2 cs hb => hkeep g2 _ cs (by decide) (Blk.ne hb bO1 (by decide)) hb⟩, ⟨⟨_, hv2, ?_, trivial⟩, hkeep _ _ _ (by decide) (by omega) bF1⟩, hB1.trans hb2⟩
        rw [he, List.length_append, List.length_singleton, rgCells_append]
        rw [← hm] at hr2 ⊢
        exact hr2
      · rw [List.concat_eq_append] at ho
        have hq := hout q (by rw [ho]; simp)
        rw [ho] at hm row hst
        rw [List.length_append, List.length_singleton] at hm
        have hm1 : 0 < m := by omega
        obtain ⟨g, cap, hv, hgb, hgl⟩ := row.form hm1
        injection hv with hv1 _ hv2
        subst hv1; subst hv2
        obtain ⟨u1, u2⟩ := rgCells_at (s ++ [q]) s.length q (by simp)
        have c2 := row.cells rfl _ _ u2
        simp only [Addr.add, Nat.add_eq_zero_iff, Nat.succ_ne_self, and_false, if_false, Nat.zero_add] at c2
        have hm2 : (0 : Int) < (m : Int) := by omega
        have hw1 : IntKind.i64.wrap ((m : Int) - 1) = (m : Int) - 1 := IntWalk.i64_in _ (by omega)
        have hw3 : (0 : Int) ≤ (m : Int) - 1 := by omega
        have hw4 : ((m : Int) - 1).toNat = s.length := by omega
        have hw5 : (m : Int) - 1 < (m : Int) := by omega
        unfold maxR at hq
        clear ho hout hmd
        by_cases hqx : q.2 + 1 = x.1.1.1
        · gi_wp2_with (refine ⟨trivial, ?_⟩; gi_at_fn gf; refine (CallsIn.inRound l (callsIn_wide.2 hcall)).mono ?_; rintro e w' ⟨rfl, rfl⟩)
          refine wpIn_region_quiet_round hro (by kernel_rfl) (by kernel_rfl) (by kernel_rfl) ?_
          repeat (gi_big_quiet_step (fail))
          refine wpQuietIn_nil ?_
          rintro _ ⟨nq, rfl⟩
          have hK : KeepsFrom W0.heap.size w' (w'.drewN nq) := ⟨Nat.le_refl _, fun _ _ _ h _ => h⟩
          have hKp : KpE w.heap.size w' (w'.drewN nq) := (KpE.refl _).drewN
          replace hB1 : Below w.heap.size w (w'.drewN nq) := hB1.drewN
          replace bF1 : Boxed (w'.drewN nq) w.heap.size 111 (.func (.func gf) #[] #[]) := bF1
          replace bO1 : Boxed (w'.drewN nq) (w.heap.size + 1) 61 (.slice (some ⟨g, 0, none⟩) m d) := bO1
          replace row : (w'.drewN nq).ownsRow w.heap.size 66 2 (.slice (some ⟨g, 0, none⟩) m d) m (rgCells (s ++ [q])) := row
          replace cO : (w'.drewN nq).cell? ⟨w.heap.size + 1, 0, none⟩ = some (.slice (some ⟨g, 0, none⟩) m d) := cO
          replace x1 : (w'.drewN nq).cell? ⟨Bx, 0, none⟩ = some (.int .i32 x.1.1.1) := x1
          replace x2 : (w'.drewN nq).cell? ⟨Bx, 1, none⟩ = some (.int .i32 x.1.1.2) := x2
          replace c2 : (w'.drewN nq).cell? ⟨g, s.length * 2 + 1, none⟩ = some (.int .i32 q.2) := c2
          generalize w'.drewN nq = V at *
          obtain ⟨cur, hg, _⟩ := own_blk row
          have f2 := hg.frozen (s.length * 2 + 1)
          clear hcall his
          gi_wp2
          refine ⟨hK.trans ((KeepsOthers.setCell _ _ _).from _), hKp.trans ⟨(Below.refl _ V).setCell (p := ⟨g, s.length * 2 + 1, none⟩) hgb _, fun g' cs hb => hb.far (Blk.ne hb hg (by decide)) _⟩, ⟨⟨_, Blk.far bO1 (Blk.ne bO1 hg (by decide)) _, ?_, trivial⟩, Blk.far bF1 (Blk.ne bF1 hg (by decide)) _⟩, hB1.setCell (p := ⟨g, s.length * 2 + 1, none⟩) hgb _⟩
          have hs := ownsRow_set row (s.length * 2 + 1) (.int .i32 x.1.1.2)
          rw [rgCells_set] at hs
          have he : outF is (pre ++ [x]) = s ++ [(q.1, x.1.1.2)] := by rw [hst]; unfold putR; simp [hqx]
          rw [he, List.length_append, List.length_singleton, hm]
          exact hs
        · gi_wp2_with (refine ⟨trivial, ?_⟩; gi_at_fn gf; refine (CallsIn.inRound l (callsIn_wide.2 hcall)).mono ?_; rintro e w' ⟨rfl, rfl⟩)
          refine wpIn_region_quiet_round hro (by kernel_rfl) (by kernel_rfl) (by kernel_rfl) ?_
          repeat (gi_big_quiet_step (fail))
          refine wpQuietIn_nil ?_
          rintro _ ⟨nq, rfl⟩
          have hK : KeepsFrom W0.heap.size w' (w'.drewN nq) := ⟨Nat.le_refl _, fun _ _ _ h _ => h⟩
          have hKp : KpE w.heap.size w' (w'.drewN nq) := (KpE.refl _).drewN
          replace hB1 : Below w.heap.size w (w'.drewN nq) := hB1.drewN
          replace bF1 : Boxed (w'.drewN nq) w.heap.size 111 (.func (.func gf) #[] #[]) := bF1
          replace bO1 : Boxed (w'.drewN nq) (w.heap.size + 1) 61 (.slice (some ⟨g, 0, none⟩) m d) := bO1
          replace row : (w'.drewN nq).ownsRow w.heap.size 66 2 (.slice (some ⟨g, 0, none⟩) m d) m (rgCells (s ++ [q])) := row
          replace cO : (w'.drewN nq).cell? ⟨w.heap.size + 1, 0, none⟩ = some (.slice (some ⟨g, 0, none⟩) m d) := cO
          replace x1 : (w'.drewN nq).cell? ⟨Bx, 0, none⟩ = some (.int .i32 x.1.1.1) := x1
          replace x2 : (w'.drewN nq).cell? ⟨Bx, 1, none⟩ = some (.int .i32 x.1.1.2) := x2
          generalize w'.drewN nq = V at *
          obtain ⟨i0, z0, hi0, hz0, hz1, hz2, hz3⟩ := elRg.info
          have hsz1 := hB1.size
          have hgt : ¬ maxLen < m + 1 := by unfold maxLen; omega
          clear his hcall
          have hqb : (q.2 + 1 == x.1.1.1) = false := by simpa using hqx
          gi_wp2_with (gi_at_builtin; refine wpListIn_append_own _ rfl _ _ 61 rfl w.heap.size 66 i0 z0 2 8 Tryd.underlying61 hi0 hz0 hz1 hz2 hz3 (by decide) _ m _ rfl (row.alloc _) ⟨V.heap.size, 0, none⟩ 1 1 [.int .i32 x.1.1.1, .int .i32 x.1.1.2] rfl rfl (cell_two_new _ _ _ _) (by simp [Value.oneCell']) (by unfold maxLen; omega) (by omega) (by simp; omega) ?_; intro v' w1 hown' hgrow _; obtain ⟨g', cap', rfl⟩ := ownsRow_succ hown'; obtain ⟨hv1, hv2, hr2, hk2, hb2⟩ := bO1.appended (by decide) row hB1.size (by omega) hown' hgrow; have hc1 := hv1.cell; have hf1 := hv1.frozen)
          have hgrow' : (V.alloc (.cells #[.int .i32 x.1.1.1, .int .i32 x.1.1.2] 66)).grownBy w1 (Value.slice (some ⟨g, 0, none⟩) m d).ownBlock := hgrow
          have hkeep : ∀ (g2 : Nat) (t : TypeId) (cs : Array Value), 66 ≠ t → g2 ≠ w.heap.size + 1 → Blk V g2 t cs → Blk (w1.setCell ⟨w.heap.size + 1, 0, none⟩ (.slice (some ⟨g', 0, none⟩) (m + 1) cap')) g2 t cs := fun g2 t cs hne hne2 hb => ((hb.alloc _).grown hgrow' (own_ne_blk row hb hne)).far (p := ⟨w.heap.size + 1, 0, none⟩) hne2 _
          have he : outF is (pre ++ [x]) = (s ++ [q]) ++ [x.1.1] := by rw [hst]; unfold putR; simp [hqx]
          refine ⟨hK.trans (hk2.from _), hKp.trans ⟨hb2, fun g2 cs hb => hkeep g2 _ cs (by decide) (Blk.ne hb bO1 (by decide)) hb⟩, ⟨⟨_, hv2, ?_, trivial⟩, hkeep _ _ _ (by decide) (by omega) bF1⟩, hB1.trans hb2⟩
          rw [he, List.length_append, List.length_singleton, rgCells_append]
          rw [← hm] at hr2 ⊢
          rw [List.length_append, List.length_singleton]
          exact hr2
    · rw [Bool.not_eq_true] at hi
      rw [hi] at hcall
      gi_wp2_with (refine ⟨trivial, ?_⟩; gi_at_fn gf; refine (CallsIn.inRound l (callsIn_wide.2 hcall)).mono ?_; rintro e w' ⟨rfl, rfl⟩)
      have he : outF is (pre ++ [x]) = outF is pre := by rw [hsn]; unfold stepF; rw [hi]; rfl
      exact ⟨KeepsFrom.refl _ _, KpE.refl _, ⟨⟨_, bO1, by rw [he]; exact row, trivial⟩, bF1⟩, hB1⟩
  case done =>
    rintro D ys W hD hys ⟨⟨⟨v, bO1, row, _⟩, bF1⟩, hB1⟩ hK
    have cO := bO1.cell
    have he : outF is ys = thoseF is E := by unfold outF thoseF; rw [hys]
    rw [he] at row
    gi_wp2
    refine ⟨by simp, .inl ⟨_, _, rfl, run_takeDeferred hK, ?_⟩⟩
    exact ⟨_, results_tmp rfl _ _ _, v, rfl, ownsRow_putObj row _ hK rfl, hB1.trans (belowK_b (w := w) (Nat.le_refl _) W D _ _ (by omega) hK rfl rfl)⟩
  case stop =>
    rintro D c pre W _ _ h _
    exact h.elim
end Go.Proofs.YtbhcgjahlfpjoaaDoor
