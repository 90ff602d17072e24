/- The reference's Norm: the walk. -/
import Derived.Test.YtoglnankopdohaaSetW0
import Derived.Test.YtoglnankopdohaaSpW2
import Derived.Deep.RegionHeld3
import Derived.StillTactics
import Derived.Deep.Cut
import Derived.BigQuiet
namespace Go.Proofs.Ytoglnankopdohaa
open Go.RowKit

theorem elG : ElemOK Try.prog 23 28 2 8 := .mk' (z := .agg #[.int .i32 0, .int .i32 0]) Try.underlying23 (by kernel_rfl) rfl (by decide)
/-- The ways of a region that draws, brought together. -/
theorem wp_merge {P : Program} {c : Code} {Q : Exit → Act → World → Prop} {a : Act} {w : World} (A0 : Act) (W0 : World) (h : c.wp P (fun e a' w' => e = .normal ∧ a' = A0 ∧ w' = W0) a w) (hq : Q .normal A0 W0) : c.wp P Q a w :=
  Code.wp_mono (fun e a' w' h => by obtain ⟨rfl, rfl, rfl⟩ := h; exact hq) h

theorem own_above' {w : World} {base : Nat} {e : TypeId} {size n : Nat} {v : Value} {xs : List Value} (h : w.ownsRow base e size v n xs) : ∀ k, v.ownBlock = some k → base ≤ k := by
  intro k hk
  rcases h.2 with ⟨rfl, _⟩ | ⟨g, cap, cur, rfl, hb, _⟩
  · simp [Value.ownBlock] at hk
  · obtain rfl : g = k := by simpa [Value.ownBlock] using hk
    exact hb

/-- What holds when i ranges have been put in. -/
structure NormRel (w wr : World) (l : List Rg) (i : Nat) (v : Value) (s : List Rg) : Prop where
  own : wr.ownsRow w.heap.size 28 2 v s.length (rgCells s)
  perm : s.Perm (cuts (l.take i))
  sorted : Sorted1 s
  below : Below w.heap.size w wr

theorem NormRel.put {w wo V : World} {l s : List Rg} {j a k base : Nat} {v v' : Value} {p : Rg} {xa xb : Int} {cs : List Value} (h : NormRel w wo l j v s) (hp : l[j]? = some p) (hX : cutR p = (xa, xb)) (hgood : xa ≤ xb)
    (h1 : ∀ i q, a ≤ i → s[i]? = some q → xa < q.1) (h2 : a = 0 ∨ ∃ q, s[a - 1]? = some q ∧ q.1 ≤ xa) (ha : a ≤ s.length) (own : V.ownsRow base 28 2 v' k cs) (hk : k = s.length + 1)
    (hcs : cs = rgCells (s.take a) ++ [.int .i32 xa, .int .i32 xb] ++ rgCells (s.drop a)) (hb : w.heap.size ≤ base) (hB : Below w.heap.size w V) : NormRel w V l (j + 1) v' (s.take a ++ (xa, xb) :: s.drop a) := by
  obtain ⟨i1, i2⟩ := insert_ok (x := (xa, xb)) h.sorted h1 h2 ha
  refine ⟨?_, ?_, i1, hB⟩
  · have hl : (s.take a ++ (xa, xb) :: s.drop a).length = k := by rw [i2.length_eq, List.length_append, List.length_singleton, hk]
    rw [hl, show rgCells (s.take a ++ (xa, xb) :: s.drop a) = cs by
      rw [hcs, show s.take a ++ (xa, xb) :: s.drop a = s.take a ++ [(xa, xb)] ++ s.drop a by simp, rgCells_append, rgCells_append]; rfl]
    exact ownsRow_base own hb
  · refine i2.trans ?_
    rw [List.take_add_one, hp]
    simp only [Option.toList_some]
    rw [cuts_snoc, hX, if_pos (by unfold goodR; rw [hX]; exact decide_eq_true hgood)]
    exact h.perm.append_right _

structure MrgRel (wo W : World) (s : List Rg) (k : Nat) (v : Value) : Prop where
  own : W.ownsRow wo.heap.size 28 2 v (mergeF (s.take k)).length (rgCells (mergeF (s.take k)))
  below : Below wo.heap.size wo W
theorem mergeF_len (s : List Rg) : ∀ k, (mergeF (s.take k)).length ≤ k
  | 0 => Nat.le_refl _
  | k + 1 => by
    have ih := mergeF_len s k
    cases h : s[k]? with
    | none =>
      rw [List.getElem?_eq_none_iff] at h
      have e : s.take (k + 1) = s.take k := by rw [List.take_of_length_le (by omega), List.take_of_length_le (by omega)]
      rw [e]; omega
    | some x =>
      rw [merge_take s k x h]
      have := putM_length (mergeF (s.take k)) x
      omega

set_option maxRecDepth 20000 in
set_option maxHeartbeats 2000000 in
theorem refNorm_any {w : World} {A : Option Addr} {n c : Nat} {l : List Rg} (hA : RgIn w A n c l) (hn : n ≤ 1000000) :
    Calls Try.prog 37 #[.slice A n c] w fun e w' => ∃ B m d r, e = .returned (.slice B m d) ∧ SetOf (mem l) r ∧ m ≤ n ∧ w'.ownsRow w.heap.size 28 2 (.slice B m d) m (rgCells r) ∧ Below w.heap.size w w' := by
  have h1 := hA.max
  have h2 := hA.le
  unfold maxLen at h1
  have hnc : (n : Int) ≤ 9223372036854775807 := by omega
  have HA := Lib.hid hA
  clear hA h1 h2
  go_enter Try.func37, Try.ntmps37
  go_wp2_with fail
  go_loopg [3, 4] (n + 1) (fun q v i wr => ∃ (j : Nat) (s : List Rg), q = n + 1 - j ∧ j ≤ n ∧ i = .int .i64 (j : Int) ∧ Hid (NormRel w wr l j v s))
  case atStart => exact ⟨0, [], rfl, by omega, rfl, Lib.hid ⟨World.ownsRow_nil _ _ _ _, by simp [cuts], List.Pairwise.nil, Below.refl _ _⟩⟩
  case round =>
    obtain ⟨j, s, hgk, hj, rfl, HR⟩ := hrel
    obtain ⟨wo, hwo⟩ : ∃ wo, wo = wr := ⟨_, rfl⟩
    subst hwo
    have HG := Lib.hid hgk
    clear hgk
    by_cases hlt : j < n
    · obtain ⟨b, o, p, rfl, hb, hp, hc, hf⟩ := HA.out.at hlt
      have hcw := fun W (h : Below w.heap.size w W) => hc W (.of_below h (Nat.le_refl _))
      have HC := Lib.hid hcw
      have HP := Lib.hid hp
      have HLT := Lib.hid hlt
      obtain ⟨c1, c2⟩ := hcw wo HR.out.below
      have hi : (j : Int) < (n : Int) := by omega
      have hbs : b < wo.heap.size := Nat.lt_of_lt_of_le hb HR.out.below.size
      obtain ⟨B, d, rfl, hmd, hdm⟩ := own_form HR.out.own
      have hfs : ∀ q ∈ s, 0 ≤ q.1 ∧ q.1 ≤ q.2 ∧ q.2 ≤ maxR := fun q hq => cuts_in _ q (HR.out.perm.mem_iff.1 hq)
      have hG := RgIn.of_own HR.out.own rfl fun q hq => fitsRg (hfs q hq)
      have HGG := Lib.hid hG
      have hsn : s.length ≤ n := by
        have h1 := HR.out.perm.length_eq
        have h2 : (cuts (l.take j)).length ≤ j := by
          unfold cuts
          refine Nat.le_trans (List.length_filter_le _ _) ?_
          rw [List.length_map, List.length_take]; omega
        omega
      clear hc hb hp hlt hcw hG
      unfold maxLen at hdm
      have hsl : (s.length : Int) ≤ 9223372036854775807 := by omega
      have hxf : -2147483648 ≤ max p.1 0 ∧ max p.1 0 ≤ 2147483647 ∧ -2147483648 ≤ min p.2 1114111 ∧ min p.2 1114111 ≤ 2147483647 := by omega
      go_wp2_with fail
      refine wp_merge ?_ ((wo.alloc (.cells #[.int .i32 (max p.1 0), .int .i32 (min p.2 1114111)] 28)).drew) ?_ ?_
      rotate_left
      · go_region_held3 (fun w' => w'.cell? ⟨b, o + j * 2, none⟩ = some (.int .i32 p.1) ∧ w'.cell? ⟨b, o + j * 2 + 1, none⟩ = some (.int .i32 p.2))
          (first
            | exact ⟨c1, c2⟩
            | go_keep)
          (fail)
        all_goals
          refine ⟨rfl, ?_, rfl⟩
          with_reducible rfl
      · clear c1 c2
        have hX : cutR p = (max p.1 0, min p.2 1114111) := rfl
        generalize max p.1 0 = xa at hX hxf ⊢
        generalize min p.2 1114111 = xb at hX hxf ⊢
        have hW1 : Below wo.heap.size wo ((wo.alloc (.cells #[.int .i32 xa, .int .i32 xb] 28)).drew) := ((Below.refl _ _).alloc (Nat.le_refl _) _).drew
        have hBk := (Blk.new wo 28 #[.int .i32 xa, .int .i32 xb]).drew
        have x1 := hBk.cell 0
        have x2 := hBk.cell 1
        simp only [List.getElem?_toArray, List.getElem?_cons_zero, List.getElem?_cons_succ] at x1 x2
        have HX := Lib.hid hX
        have hz : ((wo.alloc (.cells #[.int .i32 xa, .int .i32 xb] 28)).drew).heap.size = wo.heap.size + 1 := by simp
        generalize ((wo.alloc (.cells #[.int .i32 xa, .int .i32 xb] 28)).drew) = W1 at hW1 x1 x2 hz ⊢
        clear hX hBk
        have HW1 := Lib.hid hW1
        clear hW1
        by_cases hgood : xa ≤ xb
        · go_wp2_with fail
          go_loopg [6] (s.length + 1) (fun q2 av W => ∃ (a : Nat) (x : Int), q2 = a + 1 ∧ a ≤ s.length ∧ av = .int .i64 x ∧ Hid (x = (a : Int)) ∧ Hid ((∃ dd, W = W1.drewN dd) ∧ ∀ k q, a ≤ k → s[k]? = some q → xa < q.1))
          case atStart => exact ⟨s.length, _, rfl, Nat.le_refl _, rfl, Lib.hid rfl, Lib.hid ⟨⟨0, rfl⟩, fun k q hk hq => by rw [List.getElem?_eq_none hk] at hq; cases hq⟩⟩
          case round =>
            obtain ⟨a, x, hgk2, ha, rfl, HX2, HI⟩ := hrel
            have HG2 := Lib.hid hgk2
            clear hgk2
            have hend : (a = 0 ∨ ∃ q, 0 < a ∧ s[a - 1]? = some q ∧ q.1 ≤ xa) ∨ (0 < a ∧ ∃ q, s[a - 1]? = some q ∧ xa < q.1) := by
              rcases Nat.eq_zero_or_pos a with h | h
              · exact .inl (.inl h)
              · have h1 : s[a - 1]? = some s[a - 1] := List.getElem?_eq_getElem _
                by_cases h2 : s[a - 1].1 ≤ xa
                · exact .inl (.inr ⟨_, h, h1, h2⟩)
                · exact .inr ⟨h, _, h1, by omega⟩
            have hbw : Below w.heap.size w wr := by
              obtain ⟨dd, rfl⟩ := HI.out.1
              exact (HR.out.below.trans (HW1.out.mono HR.out.below.size)).drewN
            have hsm := Same.of_below (lo := 0) HW1.out (Nat.le_refl _)
            have hsw : Same 0 wo.heap.size wo wr := by
              obtain ⟨dd, rfl⟩ := HI.out.1
              exact hsm.drewN dd
            have y1 : wr.cell? ⟨W1.heap.size - 1, 0, none⟩ = some (.int .i32 xa) := by
              obtain ⟨dd, rfl⟩ := HI.out.1
              rw [hz]; exact x1
            have y2 : wr.cell? ⟨W1.heap.size - 1, 1, none⟩ = some (.int .i32 xb) := by
              obtain ⟨dd, rfl⟩ := HI.out.1
              rw [hz]; exact x2
            rw [hz, Nat.add_sub_cancel] at y1 y2
            have hzw : wr.heap.size = W1.heap.size := by obtain ⟨dd, rfl⟩ := HI.out.1; rfl
            have HBW := Lib.hid hbw
            have HSW := Lib.hid hsw
            have HZ := Lib.hid (hzw.trans hz)
            clear x1 x2 hbw hsw hz hsm hzw
            rcases hend with hend | ⟨h0, q, hq, hlt2⟩
            · have HA2 := Lib.hid ha
              have HEND' := Lib.hid (hend.imp_right fun ⟨q, _, h⟩ => (⟨q, h⟩ : ∃ q, s[a - 1]? = some q ∧ q.1 ≤ xa))
              rcases hend with h0 | ⟨q, h0, hq, hle⟩
              · have hn0 : ¬ (0 : Int) < x := by have := HX2.out; omega
                have hn1 : x ≤ 0 := by omega
                have hn2 : decide ((0 : Int) < x) = false := decide_eq_false hn0
                clear h0 ha
                go_wp2_with fail
                go_big_quiet (fail)
                have hxa := HX2.out
                subst hxa
                have hal : a ≤ s.length := HA2.out
                have hsa : List.take a s ++ (xa, xb) :: List.drop a s = List.take a s ++ [(xa, xb)] ++ List.drop a s := by simp
                have hgw : w.heap.size ≤ (wr.drewN nq).heap.size := HBW.out.size
                have hwo : wo.heap.size < (wr.drewN nq).heap.size := by have := HZ.out; simp; omega
                have hbq : Below w.heap.size w (wr.drewN nq) := HBW.out.drewN
                have hsq : Same 0 wo.heap.size wo (wr.drewN nq) := HSW.out.drewN nq
                have z1 : (wr.drewN nq).cell? ⟨wo.heap.size, 0, none⟩ = some (.int .i32 xa) := y1
                have z2 : (wr.drewN nq).cell? ⟨wo.heap.size, 1, none⟩ = some (.int .i32 xb) := y2
                generalize wr.drewN nq = V0 at hgw hwo hbq hsq z1 z2 ⊢
                have hmade := World.ownsRow_made (base := V0.heap.size) (size := 2) (e := 28) V0 #[] 0 (Nat.le_refl _) (Nat.zero_le _) rfl
                have hab0 := own_above' hmade
                have hR1 : Rd (V0.alloc (.cells #[] 28)) 0 wo.heap.size B (rgCells (s.take a)) := by
                  rw [rgCells_take]
                  exact (HGG.out.rd.take _).same (hsq.alloc (Nat.le_of_lt hwo) _)
                have hR3 : Rd V0 0 wo.heap.size B (rgCells s) := HGG.out.rd.same hsq
                have hBn : B = none → s.length = 0 := HGG.out.nil
                have hl1 : (rgCells (s.take a)).length = a * 2 := by rw [rgCells_length, List.length_take]; omega
                have hl3 : (rgCells s).length = s.length * 2 := rgCells_length s
                have h1e := rgCells_one (s.take a)
                have h3e := rgCells_one (s.drop a)
                have hdr := rgCells_drop s a
                have hi0 : (0 : Int) ≤ (a : Int) := by omega
                have hi1 : (a : Int) ≤ (s.length : Int) := by omega
                have hi2 : (a : Int) ≤ (d : Int) := by omega
                have HBQ := Lib.hid hbq
                have HS1 := Lib.hid hsa
                clear hbq hsq y1 y2 HBW HSW HGG HA HC hsa
                go_upto_region 11 with (at_builtin; refine wpList_app _ rfl _ _ 23 rfl V0.heap.size 28 elG _ _ _ rfl hmade 0 wo.heap.size B a d (rgCells (s.take a)) rfl (fun h => by have := hBn h; omega) hl1 hR1 h1e (by unfold maxLen; omega) (by omega) (by simp) ?_; intro v1 V1 hv1 hg1 _ _; obtain ⟨B1, d1, rfl, hd1, hd1'⟩ := own_form hv1)
                simp only [Nat.zero_add, List.nil_append] at hv1
                have hb1 : Below V0.heap.size V0 V1 := ((Below.refl V0.heap.size V0).alloc (Nat.le_refl _) _).grown hg1 (by simp) hab0
                have z3 := (hb1.cell (p := ⟨wo.heap.size, 0, none⟩) hwo).trans z1
                have z4 := (hb1.cell (p := ⟨wo.heap.size, 1, none⟩) hwo).trans z2
                have hR4 : Rd V1 0 wo.heap.size B (rgCells s) := hR3.same (.of_below hb1 (Nat.le_of_lt hwo))
                have hs1 := hb1.size
                have hab1 := own_above' hv1
                have HB1 := Lib.hid hb1
                clear hg1 hmade hR1 hR3 z1 z2 hb1
                go_upto_region 12 with (at_builtin; refine wpList_app _ rfl _ _ 23 rfl V0.heap.size 28 elG _ _ _ rfl (hv1.alloc _) 0 (V1.heap.size + 1) _ 1 1 [.int .i32 xa, .int .i32 xb] rfl (fun h => by cases h) rfl (Rd.new V1 _ _ _ (Nat.zero_le _) (by omega)) (by simp [Value.oneCell']) (by unfold maxLen; omega) (by omega) (by simp; omega) ?_; intro v2 V2 hv2 hg2 _ _; obtain ⟨B2, d2, rfl, hd2, hd2'⟩ := own_form hv2)
                have hb2 : Below V0.heap.size V1 V2 := ((Below.refl V0.heap.size V1).alloc hs1 _).grown hg2 (by simp; omega) hab1
                have hR5 : Rd V2 0 wo.heap.size B (rgCells s) := hR4.same (.of_below hb2 (Nat.le_of_lt hwo))
                have hs2 := hb2.size
                have hs12 : V0.heap.size ≤ V2.heap.size := Nat.le_trans hs1 hs2
                have hab2 := own_above' hv2
                have HB2 := Lib.hid (HB1.out.trans hb2)
                have hg0 : d ≠ a → ∃ g, B = some ⟨g, 0, none⟩ := fun hne => by
                  rcases Nat.eq_zero_or_pos s.length with h0 | h0
                  · rcases HR.out.own.2 with ⟨hv, _⟩ | ⟨g, cap, cur, hv, _⟩
                    · injection hv with _ _ h3; omega
                    · injection hv with h1; exact ⟨g, h1⟩
                  · obtain ⟨g, cap, hv, _⟩ := HR.out.own.form h0
                    injection hv with h1; exact ⟨g, h1⟩
                have HRO := HR
                clear hg2 hb2 hR4 z3 z4 hv1 hab1 HB1 HR
                by_cases hda : d = a
                · have has : a = s.length := by omega
                  have hdn : s.drop a = [] := List.drop_eq_nil_of_le (by omega)
                  have HAS := Lib.hid has
                  have hkk : a + 1 + 0 = s.length + 1 := by omega
                  subst hda
                  go_wp2_with (at_builtin; refine wpList_app _ rfl _ _ 23 rfl V0.heap.size 28 elG _ _ _ rfl hv2 0 wo.heap.size _ 0 0 [] rfl (fun _ => rfl) rfl Rd.nil (fun _ h => by cases h) (by unfold maxLen; omega) (by omega) (by omega) ?_; intro v3 V3 hv3 hg3 _ _; obtain ⟨B3, d3, rfl, hd3, hd3'⟩ := own_form hv3)
                  go_roundg (n + 1 - (j + 1))
                  case measure => have := HG.out; have := HLT.out; omega
                  case rel =>
                    have hab3 := own_above' hv2
                    have hB3 : Below w.heap.size w V3 := HBQ.out.trans ((HB2.out.trans ((Below.refl V0.heap.size V2).grown hg3 hs12 hab3)).mono hgw)
                    rw [hkk] at hv3
                    exact ⟨j + 1, _, rfl, by have := HLT.out; omega, by go_num, Lib.hid (NormRel.put HRO.out HP.out HX.out hgood HI.out.2 HEND'.out hal hv3 rfl (by rw [hdn]; rfl) hgw hB3)⟩
                · obtain ⟨g, rfl⟩ := hg0 hda
                  have hR6 := hR5.cut (k := a) (c := d) hl3 (by omega) hal hmd
                  rw [← hdr, if_neg hda] at hR6
                  simp only [Option.map_some, Go.WideShapes.add_plain, Nat.zero_add] at hR6
                  have hl6 : (rgCells (s.drop a)).length = (s.length - a) * 2 := by rw [rgCells_length, List.length_drop]
                  go_wp2_with (at_builtin; refine wpList_app _ rfl _ _ 23 rfl V0.heap.size 28 elG _ _ _ rfl hv2 0 wo.heap.size _ (s.length - a) (d - a) (rgCells (s.drop a)) rfl (fun h => by cases h) hl6 hR6 h3e (by unfold maxLen; omega) (by omega) (by omega) ?_; intro v3 V3 hv3 hg3 _ _; obtain ⟨B3, d3, rfl, hd3, hd3'⟩ := own_form hv3)
                  go_roundg (n + 1 - (j + 1))
                  case measure => have := HG.out; have := HLT.out; omega
                  case rel =>
                    have hab3 := own_above' hv2
                    have hB3 : Below w.heap.size w V3 := HBQ.out.trans ((HB2.out.trans ((Below.refl V0.heap.size V2).grown hg3 hs12 hab3)).mono hgw)
                    exact ⟨j + 1, _, rfl, by have := HLT.out; omega, by go_num, Lib.hid (NormRel.put HRO.out HP.out HX.out hgood HI.out.2 HEND'.out hal hv3 (show a + 1 + (s.length - a) = s.length + 1 by omega) rfl hgw hB3)⟩
              · obtain ⟨a', rfl⟩ : ∃ a', a = a' + 1 := ⟨a - 1, by omega⟩
                rw [Nat.add_sub_cancel] at hq
                obtain ⟨g, cap, hvg, _⟩ := HR.out.own.form (by omega)
                injection hvg with hvg _ hcap
                subst hvg; subst hcap
                obtain ⟨b', o', q', hBe, hb', hq', hc', _⟩ := HGG.out.at (k := a') (by omega)
                injection hBe with hBe
                injection hBe with hBe1 hBe2
                subst hBe1; subst hBe2
                rw [hq] at hq'
                injection hq' with hq'
                subst hq'
                obtain ⟨c1, c2⟩ := hc' wr HSW.out
                simp only [Nat.zero_add] at c1 c2
                have hxx : x = (a' : Int) + 1 := by have := HX2.out; omega
                have hw1 : IntKind.i64.wrap (x - 1) = x - 1 := IntWalk.i64_in _ (by omega)
                have hw3 : (0 : Int) ≤ x - 1 := by omega
                have hw4 : (x - 1).toNat = a' := by omega
                have hi2 : x - 1 < (s.length : Int) := by omega
                have hx0 : 0 < x := by omega
                have hnq : decide (xa < q.1) = false := decide_eq_false (by omega)
                have hnq2 : ¬ xa < q.1 := by omega
                clear hc' hb' hq ha hxx
                go_wp2_with fail
                go_big_quiet (fail)
                have hxa := HX2.out
                clear hw1 hw3 hw4 hi2 hx0 hnq hnq2
                subst hxa
                generalize a' + 1 = a at *
                have hal : a ≤ s.length := HA2.out
                have hsa : List.take a s ++ (xa, xb) :: List.drop a s = List.take a s ++ [(xa, xb)] ++ List.drop a s := by simp
                have hgw : w.heap.size ≤ (wr.drewN nq).heap.size := HBW.out.size
                have hwo : wo.heap.size < (wr.drewN nq).heap.size := by have := HZ.out; simp; omega
                have hbq : Below w.heap.size w (wr.drewN nq) := HBW.out.drewN
                have hsq : Same 0 wo.heap.size wo (wr.drewN nq) := HSW.out.drewN nq
                have z1 : (wr.drewN nq).cell? ⟨wo.heap.size, 0, none⟩ = some (.int .i32 xa) := y1
                have z2 : (wr.drewN nq).cell? ⟨wo.heap.size, 1, none⟩ = some (.int .i32 xb) := y2
                generalize wr.drewN nq = V0 at hgw hwo hbq hsq z1 z2 ⊢
                have hmade := World.ownsRow_made (base := V0.heap.size) (size := 2) (e := 28) V0 #[] 0 (Nat.le_refl _) (Nat.zero_le _) rfl
                have hab0 := own_above' hmade
                have hR1 : Rd (V0.alloc (.cells #[] 28)) 0 wo.heap.size (some ⟨g, 0, none⟩) (rgCells (s.take a)) := by
                  rw [rgCells_take]
                  exact (HGG.out.rd.take _).same (hsq.alloc (Nat.le_of_lt hwo) _)
                have hR3 : Rd V0 0 wo.heap.size (some ⟨g, 0, none⟩) (rgCells s) := HGG.out.rd.same hsq
                have hBn : (some (⟨g, 0, none⟩ : Addr)) = none → s.length = 0 := HGG.out.nil
                have hl1 : (rgCells (s.take a)).length = a * 2 := by rw [rgCells_length, List.length_take]; omega
                have hl3 : (rgCells s).length = s.length * 2 := rgCells_length s
                have h1e := rgCells_one (s.take a)
                have h3e := rgCells_one (s.drop a)
                have hdr := rgCells_drop s a
                have hi0 : (0 : Int) ≤ (a : Int) := by omega
                have hi1 : (a : Int) ≤ (s.length : Int) := by omega
                have hi2 : (a : Int) ≤ (d : Int) := by omega
                have HBQ := Lib.hid hbq
                have HS1 := Lib.hid hsa
                clear hbq hsq y1 y2 HBW HSW HGG HA HC hsa
                go_upto_region 11 with (at_builtin; refine wpList_app _ rfl _ _ 23 rfl V0.heap.size 28 elG _ _ _ rfl hmade 0 wo.heap.size (some ⟨g, 0, none⟩) a d (rgCells (s.take a)) rfl (fun h => by have := hBn h; omega) hl1 hR1 h1e (by unfold maxLen; omega) (by omega) (by simp) ?_; intro v1 V1 hv1 hg1 _ _; obtain ⟨B1, d1, rfl, hd1, hd1'⟩ := own_form hv1)
                simp only [Nat.zero_add, List.nil_append] at hv1
                have hb1 : Below V0.heap.size V0 V1 := ((Below.refl V0.heap.size V0).alloc (Nat.le_refl _) _).grown hg1 (by simp) hab0
                have z3 := (hb1.cell (p := ⟨wo.heap.size, 0, none⟩) hwo).trans z1
                have z4 := (hb1.cell (p := ⟨wo.heap.size, 1, none⟩) hwo).trans z2
                have hR4 : Rd V1 0 wo.heap.size (some ⟨g, 0, none⟩) (rgCells s) := hR3.same (.of_below hb1 (Nat.le_of_lt hwo))
                have hs1 := hb1.size
                have hab1 := own_above' hv1
                have HB1 := Lib.hid hb1
                clear hg1 hmade hR1 hR3 z1 z2 hb1
                go_upto_region 12 with (at_builtin; refine wpList_app _ rfl _ _ 23 rfl V0.heap.size 28 elG _ _ _ rfl (hv1.alloc _) 0 (V1.heap.size + 1) _ 1 1 [.int .i32 xa, .int .i32 xb] rfl (fun h => by cases h) rfl (Rd.new V1 _ _ _ (Nat.zero_le _) (by omega)) (by simp [Value.oneCell']) (by unfold maxLen; omega) (by omega) (by simp; omega) ?_; intro v2 V2 hv2 hg2 _ _; obtain ⟨B2, d2, rfl, hd2, hd2'⟩ := own_form hv2)
                have hb2 : Below V0.heap.size V1 V2 := ((Below.refl V0.heap.size V1).alloc hs1 _).grown hg2 (by simp; omega) hab1
                have hR5 : Rd V2 0 wo.heap.size (some ⟨g, 0, none⟩) (rgCells s) := hR4.same (.of_below hb2 (Nat.le_of_lt hwo))
                have hs2 := hb2.size
                have hs12 : V0.heap.size ≤ V2.heap.size := Nat.le_trans hs1 hs2
                have hab2 := own_above' hv2
                have HB2 := Lib.hid (HB1.out.trans hb2)
                have HRO := HR
                clear hg2 hb2 hR4 z3 z4 hv1 hab1 HB1 HR
                by_cases hda : d = a
                · have has : a = s.length := by omega
                  have hdn : s.drop a = [] := List.drop_eq_nil_of_le (by omega)
                  have HAS := Lib.hid has
                  have hkk : a + 1 + 0 = s.length + 1 := by omega
                  subst hda
                  go_wp2_with (at_builtin; refine wpList_app _ rfl _ _ 23 rfl V0.heap.size 28 elG _ _ _ rfl hv2 0 wo.heap.size _ 0 0 [] rfl (fun _ => rfl) rfl Rd.nil (fun _ h => by cases h) (by unfold maxLen; omega) (by omega) (by omega) ?_; intro v3 V3 hv3 hg3 _ _; obtain ⟨B3, d3, rfl, hd3, hd3'⟩ := own_form hv3)
                  go_roundg (n + 1 - (j + 1))
                  case measure => have := HG.out; have := HLT.out; omega
                  case rel =>
                    have hab3 := own_above' hv2
                    have hB3 : Below w.heap.size w V3 := HBQ.out.trans ((HB2.out.trans ((Below.refl V0.heap.size V2).grown hg3 hs12 hab3)).mono hgw)
                    rw [hkk] at hv3
                    exact ⟨j + 1, _, rfl, by have := HLT.out; omega, by go_num, Lib.hid (NormRel.put HRO.out HP.out HX.out hgood HI.out.2 HEND'.out hal hv3 rfl (by rw [hdn]; rfl) hgw hB3)⟩
                · have hR6 := hR5.cut (k := a) (c := d) hl3 (by omega) hal hmd
                  rw [← hdr, if_neg hda] at hR6
                  simp only [Option.map_some, Go.WideShapes.add_plain, Nat.zero_add] at hR6
                  have hl6 : (rgCells (s.drop a)).length = (s.length - a) * 2 := by rw [rgCells_length, List.length_drop]
                  go_wp2_with (at_builtin; refine wpList_app _ rfl _ _ 23 rfl V0.heap.size 28 elG _ _ _ rfl hv2 0 wo.heap.size _ (s.length - a) (d - a) (rgCells (s.drop a)) rfl (fun h => by cases h) hl6 hR6 h3e (by unfold maxLen; omega) (by omega) (by omega) ?_; intro v3 V3 hv3 hg3 _ _; obtain ⟨B3, d3, rfl, hd3, hd3'⟩ := own_form hv3)
                  go_roundg (n + 1 - (j + 1))
                  case measure => have := HG.out; have := HLT.out; omega
                  case rel =>
                    have hab3 := own_above' hv2
                    have hB3 : Below w.heap.size w V3 := HBQ.out.trans ((HB2.out.trans ((Below.refl V0.heap.size V2).grown hg3 hs12 hab3)).mono hgw)
                    exact ⟨j + 1, _, rfl, by have := HLT.out; omega, by go_num, Lib.hid (NormRel.put HRO.out HP.out HX.out hgood HI.out.2 HEND'.out hal hv3 (show a + 1 + (s.length - a) = s.length + 1 by omega) rfl hgw hB3)⟩
            · obtain ⟨a', rfl⟩ : ∃ a', a = a' + 1 := ⟨a - 1, by omega⟩
              rw [Nat.add_sub_cancel] at hq
              obtain ⟨b', o', q', rfl, hb', hq', hc', _⟩ := HGG.out.at (k := a') (by omega)
              rw [hq] at hq'
              injection hq' with hq'
              subst hq'
              obtain ⟨c1, c2⟩ := hc' wr HSW.out
              have hxx : x = (a' : Int) + 1 := by have := HX2.out; omega
              have hw1 : IntKind.i64.wrap (x - 1) = x - 1 := IntWalk.i64_in _ (by omega)
              have hw3 : (0 : Int) ≤ x - 1 := by omega
              have hw4 : (x - 1).toNat = a' := by omega
              have hi2 : x - 1 < (s.length : Int) := by omega
              have hx0 : 0 < x := by omega
              have HXX := Lib.hid hxx
              have HA2 := Lib.hid ha
              have HQ := Lib.hid hq
              clear hc' hb' hq ha h0 hxx HR HGG HA HC HBW HSW
              go_wp2_with fail
              go_big_quiet (fail)
              go_wp2_with fail
              go_roundg (a' + 1)
              case measure => have := HG2.out; omega
              case rel =>
                refine ⟨a', x - 1, rfl, by have := HA2.out; omega, by go_num, Lib.hid (by have := HXX.out; omega), ?_⟩
                obtain ⟨⟨dd, rfl⟩, h⟩ := HI.out
                refine Lib.hid ⟨⟨_, World.drewN_drewN _ _ _⟩, fun k r hk hr => ?_⟩
                rcases Nat.lt_or_eq_of_le hk with h1 | h1
                · exact h k r h1 hr
                · subst h1; rw [HQ.out] at hr; injection hr with hr; subst hr; exact hlt2
        · go_wp2_with fail
          go_roundg (n + 1 - (j + 1))
          case measure => have := HG.out; have := HLT.out; omega
          case rel =>
            refine ⟨j + 1, s, rfl, by have := HLT.out; omega, by go_num, Lib.hid ?_⟩
            have hnr := HR.out
            refine ⟨ownsRow_below' hnr.own HW1.out, ?_, hnr.sorted, hnr.below.trans (HW1.out.mono hnr.below.size)⟩
            rw [List.take_add_one, HP.out]
            simp only [Option.toList_some]
            rw [cuts_snoc]
            have : goodR p = false := by unfold goodR; rw [HX.out]; exact decide_eq_false (by dsimp only; omega)
            rw [this]
            simpa using hnr.perm
    · have hjn : j = n := by omega
      subst hjn
      have hi : ¬ (j : Int) < (j : Int) := by omega
      have hlt' : l.take j = l := by rw [List.take_of_length_le (by have := HA.out.len; omega)]
      have HR1 := HR.out
      have hperm := HR1.perm
      rw [hlt'] at hperm
      have HPM := Lib.hid hperm
      have HSO := Lib.hid HR1.sorted
      obtain ⟨B, d, rfl, hmd, hdm⟩ := own_form HR1.own
      have hfs : ∀ q ∈ s, 0 ≤ q.1 ∧ q.1 ≤ q.2 ∧ q.2 ≤ maxR := fun q hq => cuts_in _ q (hperm.mem_iff.1 hq)
      have hG := RgIn.of_own HR1.own rfl fun q hq => fitsRg (hfs q hq)
      have HGG := Lib.hid hG
      have hsn : s.length ≤ j := by
        have h1 := hperm.length_eq
        have h2 : (cuts l).length ≤ j := by
          unfold cuts
          refine Nat.le_trans (List.length_filter_le _ _) ?_
          rw [List.length_map]
          exact Nat.le_of_eq HA.out.len
        omega
      have HBW := Lib.hid HR1.below
      have HFS := Lib.hid hfs
      unfold maxLen at hdm
      have hsl : (s.length : Int) ≤ 9223372036854775807 := by omega
      clear hG hperm HR1 hlt' hfs hlt HA HR
      go_wp2_with fail
      go_loopg [8, 9] (s.length + 1) (fun q v i W => ∃ (k : Nat), q = s.length + 1 - k ∧ k ≤ s.length ∧ i = .int .i64 (k : Int) ∧ Hid (MrgRel wo W s k v))
      case atStart => exact ⟨0, rfl, by omega, rfl, Lib.hid ⟨World.ownsRow_nil _ _ _ _, Below.refl _ _⟩⟩
      case round =>
        obtain ⟨k, hgk2, hk, rfl, HI⟩ := hrel
        have HG2 := Lib.hid hgk2
        clear hgk2
        by_cases hlt2 : k < s.length
        · obtain ⟨b, o, p, rfl, hb, hp, hcc, _⟩ := HGG.out.at hlt2
          obtain ⟨u1, u2⟩ := hcc wr (.of_below HI.out.below (Nat.le_refl _))
          have hpf := HFS.out p (List.mem_of_getElem? hp)
          unfold maxR at hpf
          have hi2 : (k : Int) < (s.length : Int) := by omega
          have hmt := merge_take s k p hp
          obtain ⟨mB, mc, rfl, hmd2, hmm2⟩ := own_form HI.out.own
          have hml : (mergeF (s.take k)).length ≤ k := mergeF_len s k
          have hmf : ∀ q ∈ mergeF (s.take k), 0 ≤ q.1 ∧ q.1 ≤ q.2 ∧ q.2 ≤ maxR := (merge_ok (s.take k) [] (HSO.out.sublist (List.take_sublist _ _)) (fun q hq => HFS.out q (List.take_subset _ _ hq)) canon_nil (fun _ h => by cases h)).1.1
          have hown := HI.out.own
          have hbel := HI.out.below
          have HMT := Lib.hid hmt
          have HLT2 := Lib.hid hlt2
          clear hcc hp hmt hlt2 HGG HBW HPM HSO HFS
          generalize hmm : (mergeF (s.take k)).length = m at hown hmd2 hml HI ⊢
          generalize mergeF (s.take k) = r at hown HMT hmf hmm
          clear HI
          have HOWN := Lib.hid hown
          have HBEL := Lib.hid hbel
          clear hbel
          unfold maxLen at hmm2
          have hmi : (m : Int) ≤ 9223372036854775807 := by omega
          have HMM := Lib.hid hmm
          rcases List.eq_nil_or_concat r with rfl | ⟨t, q, rfl⟩
          · have hm0 : (m : Int) = 0 := by rw [← hmm]; rfl
            have hmn : ¬ (0 : Int) < (m : Int) := by omega
            have hmd : decide ((0 : Int) < (m : Int)) = false := decide_eq_false hmn
            clear hmm hown
            go_wp2_with fail
            go_big_quiet (fail)
            have hownV : (wr.drewN nq).ownsRow wo.heap.size 28 2 (.slice mB m mc) m (rgCells []) := HOWN.out
            have hbV : Below wo.heap.size wo (wr.drewN nq) := HBEL.out.drewN
            have u3 : (wr.drewN nq).cell? ⟨b, o + k * 2, none⟩ = some (.int .i32 p.1) := u1
            have u4 : (wr.drewN nq).cell? ⟨b, o + k * 2 + 1, none⟩ = some (.int .i32 p.2) := u2
            clear u1 u2 HOWN HBEL
            generalize wr.drewN nq = V at hownV hbV u3 u4 ⊢
            have hab := own_above' hownV
            have hsV := hbV.size
            go_wp2_with (at_builtin; refine wpList_app _ rfl _ _ 23 rfl wo.heap.size 28 elG _ _ _ rfl (hownV.alloc _) 0 (V.heap.size + 1) _ 1 1 [.int .i32 p.1, .int .i32 p.2] rfl (fun h => by cases h) rfl (Rd.new V _ _ _ (Nat.zero_le _) (by omega)) (by simp [Value.oneCell']) (by unfold maxLen; omega) (by omega) (by simp; omega) ?_; intro v2 V2 hv2 hg2 _ _; obtain ⟨B2, d2, rfl, hd2, hd2'⟩ := own_form hv2)
            go_roundg (s.length + 1 - (k + 1))
            case measure => have := HG2.out; have := HLT2.out; omega
            case rel =>
              have hB3 : Below wo.heap.size wo V2 := (hbV.alloc hsV _).grown hg2 (by simp; omega) hab
              have he : mergeF (s.take (k + 1)) = [] ++ [p] := by rw [HMT.out]; rfl
              refine ⟨k + 1, rfl, by have := HLT2.out; omega, by go_num, Lib.hid ⟨?_, hB3⟩⟩
              rw [he, rgCells_append, List.length_append, List.length_singleton, HMM.out]
              exact hv2
          · rw [List.concat_eq_append] at *
            have hq := hmf q (by simp)
            have hmt2 : m = t.length + 1 := by rw [← hmm, List.length_append, List.length_singleton]
            obtain ⟨g, cap, hv, hgb0, hgl⟩ := hown.form (by omega)
            injection hv with hv1 _ hv2
            subst hv1; subst hv2
            obtain ⟨e1, e2⟩ := rgCells_at (t ++ [q]) t.length q (by simp)
            have c2 := hown.cells rfl _ _ e2
            simp only [Addr.add, Nat.add_eq_zero_iff, Nat.succ_ne_self, and_false, if_false, Nat.zero_add] at c2
            have hm2 : (0 : Int) < (m : Int) := by omega
            have hm3 : decide ((0 : Int) < (m : Int)) = true := decide_eq_true hm2
            have hm4 : 0 < m := by omega
            have hm5 : decide (0 < m) = true := decide_eq_true hm4
            have hw1 : IntKind.i64.wrap ((m : Int) - 1) = (m : Int) - 1 := IntWalk.i64_in _ (by omega)
            have hw3 : (0 : Int) ≤ (m : Int) - 1 := by omega
            have hw4 : ((m : Int) - 1).toNat = t.length := by omega
            have hw5 : (m : Int) - 1 < (m : Int) := by omega
            unfold maxR at hq
            have HMT2 := Lib.hid hmt2
            clear hmm hown hmf e1 e2 hmt2 hgl
            by_cases hjoin : p.1 ≤ q.2 + 1
            · have HJO := Lib.hid hjoin
              go_wp2_with fail
              go_big_quiet (fail)
              have hownV : (wr.drewN nq).ownsRow wo.heap.size 28 2 (.slice (some ⟨g, 0, none⟩) m mc) m (rgCells (t ++ [q])) := HOWN.out
              have hbV : Below wo.heap.size wo (wr.drewN nq) := HBEL.out.drewN
              have u3 : (wr.drewN nq).cell? ⟨b, o + k * 2, none⟩ = some (.int .i32 p.1) := u1
              have u4 : (wr.drewN nq).cell? ⟨b, o + k * 2 + 1, none⟩ = some (.int .i32 p.2) := u2
              have c3 : (wr.drewN nq).cell? ⟨g, t.length * 2 + 1, none⟩ = some (.int .i32 q.2) := c2
              clear u1 u2 HOWN HBEL c2
              generalize wr.drewN nq = V at hownV hbV u3 u4 c3 ⊢
              obtain ⟨cur, hgb, _⟩ := own_blk hownV
              have f3 := hgb.frozen (t.length * 2 + 1)
              have hag := own_above' hownV g rfl
              clear hgb
              have HOV := Lib.hid hownV
              clear hownV
              go_wp2_with fail
              have htm : t.length < m := by have := HMT2.out; omega
              have htm2 : ((t.length : Nat) : Int) < (m : Int) := by omega
              have hs := ownsRow_set HOV.out (t.length * 2 + 1) (.int .i32 (max q.2 p.2))
              rw [rgCells_set] at hs
              have hB3 : Below wo.heap.size wo ((V.setCell ⟨g, t.length * 2 + 1, none⟩ (.int .i32 (max q.2 p.2))).drew) := (hbV.setCell (p := ⟨g, t.length * 2 + 1, none⟩) hag _).drew
              have hs' : ((V.setCell ⟨g, t.length * 2 + 1, none⟩ (.int .i32 (max q.2 p.2))).drew).ownsRow wo.heap.size 28 2 (.slice (some ⟨g, 0, none⟩) m mc) m (rgCells (t ++ [(q.1, max q.2 p.2)])) := hs
              have HFIN := Lib.hid (And.intro hB3 hs')
              clear hs hB3 hs'
              go_region
              generalize (V.setCell ⟨g, t.length * 2 + 1, none⟩ (.int .i32 (max q.2 p.2))).drew = W2 at HFIN ⊢
              go_wp2_with fail
              go_roundg (s.length + 1 - (k + 1))
              case measure => have := HG2.out; have := HLT2.out; omega
              case rel =>
                obtain ⟨hB3, hs'⟩ := HFIN.out
                have he : mergeF (s.take (k + 1)) = t ++ [(q.1, max q.2 p.2)] := by rw [HMT.out]; exact putM_join HJO.out
                refine ⟨k + 1, rfl, by have := HLT2.out; omega, by go_num, Lib.hid ⟨?_, hB3⟩⟩
                rw [he, List.length_append, List.length_singleton, ← HMT2.out]
                exact hs'
            · have HNO := Lib.hid hjoin
              have hjd : decide (p.1 ≤ q.2 + 1) = false := decide_eq_false hjoin
              go_wp2_with fail
              go_big_quiet (fail)
              have hownV : (wr.drewN nq).ownsRow wo.heap.size 28 2 (.slice (some ⟨g, 0, none⟩) m mc) m (rgCells (t ++ [q])) := HOWN.out
              have hbV : Below wo.heap.size wo (wr.drewN nq) := HBEL.out.drewN
              have u3 : (wr.drewN nq).cell? ⟨b, o + k * 2, none⟩ = some (.int .i32 p.1) := u1
              have u4 : (wr.drewN nq).cell? ⟨b, o + k * 2 + 1, none⟩ = some (.int .i32 p.2) := u2
              clear u1 u2 HOWN HBEL
              generalize wr.drewN nq = V at hownV hbV u3 u4 ⊢
              have hab := own_above' hownV
              have hsV := hbV.size
              go_wp2_with (at_builtin; refine wpList_app _ rfl _ _ 23 rfl wo.heap.size 28 elG _ _ _ rfl (hownV.alloc _) 0 (V.heap.size + 1) _ 1 1 [.int .i32 p.1, .int .i32 p.2] rfl (fun h => by cases h) rfl (Rd.new V _ _ _ (Nat.zero_le _) (by omega)) (by simp [Value.oneCell']) (by unfold maxLen; omega) (by omega) (by simp; omega) ?_; intro v2 V2 hv2 hg2 _ _; obtain ⟨B2, d2, rfl, hd2, hd2'⟩ := own_form hv2)
              go_roundg (s.length + 1 - (k + 1))
              case measure => have := HG2.out; have := HLT2.out; omega
              case rel =>
                have hB3 : Below wo.heap.size wo V2 := (hbV.alloc hsV _).grown hg2 (by simp; omega) hab
                have he : mergeF (s.take (k + 1)) = (t ++ [q]) ++ [p] := by rw [HMT.out]; exact putM_more (by have := HNO.out; omega)
                refine ⟨k + 1, rfl, by have := HLT2.out; omega, by go_num, Lib.hid ⟨?_, hB3⟩⟩
                rw [he, rgCells_append, List.length_append, List.length_singleton, HMM.out]
                exact hv2
        · have hks : k = s.length := by omega
          subst hks
          have hi2 : ¬ ((s.length : Int) < (s.length : Int)) := by omega
          have hre : s.take s.length = s := List.take_length
          have HI1 := HI.out.own
          rw [hre] at HI1
          have hset := merge_setOf HPM.out HSO.out
          have hml : (mergeF s).length ≤ s.length := by have := mergeF_len s s.length; rw [hre] at this; exact this
          have hBfin := HBW.out.trans (HI.out.below.mono HBW.out.size)
          have hown3 := ownsRow_base HI1 HBW.out.size
          obtain ⟨mB, mc, rfl, _, _⟩ := own_form HI1
          have hle : (mergeF s).length ≤ j := by omega
          have HF := Lib.hid (And.intro hset (And.intro hle (And.intro hown3 hBfin)))
          clear hset hml hBfin hown3 HI1 HI hle hlt2 HGG
          go_wp2_with fail
          go_ret
          obtain ⟨h1, h2, h3, h4⟩ := HF.out
          exact ⟨_, _, _, rfl, _, h1, h2, h3, h4⟩
end Go.Proofs.Ytoglnankopdohaa
