/- ProgsParts: the law's walk, for programs and lists that are not great. -/
import Derived.Test.YtbhcgjahlfpjoaaPp1
import Derived.Test.YtbhcgjahlfpjoaaPp2
import Derived.Test.YtbhcgjahlfpjoaaHeld
namespace Go.Proofs.Ytbhcgjahlfpjoaa
open Go.RowKit

theorem own_below {W W2 : World} {base : Nat} {e : TypeId} {size n : Nat} {v : Value} {xs : List Value} (h : W.ownsRow base e size v n xs) (hb : Below W.heap.size W W2) : W2.ownsRow base e size v n xs :=
  h.kept (show W.grownBy W2 none from ⟨hb.os, hb.tape, hb.output, hb.size, fun k hk _ => hb.block k hk⟩) (by cases v.ownBlock <;> simp)
theorem parts_law {n : Nat} {st cp at_ : Int} {L : List MI} {la lb xl xm xn : List Int} {bl bm bn : Bool} (hlen : L.length = n) (hl : ClV n st cp at_ true L (la ++ lb) xl bl) (hm : ClV n st cp at_ true L la xm bm) (hn : ClV n st cp at_ true L lb xn bn)
    (h1 : PgOK n st cp L) (h2 : InL n la) (h3 : InL n lb) : bl = (bm || bn) ∧ xl.length = (want xm xn).length ∧ (∀ q ∈ xl, q ∈ want xm xn) ∧ xm <+: xl ∧ xm.length ≤ 10000 ∧ xn.length ≤ 10000 := by
  have h23 : InL n (la ++ lb) := fun q hq => (List.mem_append.1 hq).elim (h2 q) (h3 q)
  have hn1 := h1.2.1
  rcases hl with ⟨a, _, _⟩ | ⟨_, _, e, he, rfl, rfl⟩
  · exact absurd ⟨h1, h23⟩ a
  rcases hm with ⟨a, _, _⟩ | ⟨_, _, m, hm, rfl, rfl⟩
  · exact absurd ⟨h1, h2⟩ a
  rcases hn with ⟨a, _, _⟩ | ⟨_, _, k, hk, rfl, rfl⟩
  · exact absurd ⟨h1, h3⟩ a
  obtain ⟨a, b, c, d⟩ := Runs.parts (.of_ok h1 hlen) hlen (by rw [hlen]; exact h2) (by rw [hlen]; exact h3) he hm hk
  have q1 := hm.num.2.2
  have q2 := hk.num.2.2
  simp only [CS.start, CS.left, List.length_nil, List.count_replicate_self] at q1 q2
  exact ⟨a, b, c, d, by omega, by omega⟩
theorem want_snoc {m l : List Int} {x : Int} {j : Nat} (h : l[j]? = some x) : want m (l.take (j + 1)) = if x ∈ m then want m (l.take j) else want m (l.take j) ++ [x] := by
  unfold want
  rw [List.take_add_one, h, List.filter_append, Option.toList_some, ← List.append_assoc]
  by_cases hx : x ∈ m
  · rw [if_pos hx]; simp [hx]
  · rw [if_neg hx]; simp [hx]
theorem want_len (m l : List Int) (j : Nat) : (want m (l.take j)).length ≤ m.length + l.length := by
  unfold want
  rw [List.length_append]
  have := List.length_filter_le (fun q => decide (q ∉ m)) (l.take j)
  have : (l.take j).length ≤ l.length := by rw [List.length_take]; omega
  omega
theorem mem_take_succ {l : List Int} {k : Nat} {x y : Int} (h : l[k]? = some y) : x ∈ l.take (k + 1) ↔ x ∈ l.take k ∨ x = y := by
  rw [List.take_add_one, h]; simp
/-- Is it known that a list has it? -/
def Kn (b : Bool) (x : Int) (l : List Int) : Prop := b = true ↔ x ∈ l
theorem Kn.nil (x : Int) (l : List Int) : Kn false x (l.take 0) := by simp [Kn]
/-- A loop's world: its own list, and what lay. -/
structure WtM (w0 W : World) (O : Option Addr) (oc : Nat) (l : List Int) : Prop where
  below : Below w0.heap.size w0 W
  own : W.ownsRow w0.heap.size 3 1 (.slice O l.length oc) l.length (i64s l)
theorem WtM.on {w0 W W2 : World} {O : Option Addr} {oc : Nat} {l : List Int} (h : WtM w0 W O oc l) (hb : Below W.heap.size W W2) : WtM w0 W2 O oc l := ⟨h.below.trans (hb.mono h.below.size), own_below h.own hb⟩

set_option maxRecDepth 100000 in
set_option maxHeartbeats 8000000 in
theorem progsParts_walk {w : World} {A : Option Addr} {n c : Nat} {st cp : Int} {L : List MI} (hA : PgIn w A n c L) (hfit : n ≤ 1048576 ∧ ∀ x ∈ L, x.n ≤ 1000000) {Ba : Option Addr} {ma da : Nat} {la : List Int} (hIa : IlIn w Ba ma da la) (hma : ma ≤ 1048576) {Bb : Option Addr} {mb db : Nat} {lb : List Int} (hIb : IlIn w Bb mb db lb) (hmb : mb ≤ 1048576) (at_ : Int) :
    Calls Try.prog 13 #[.agg #[.slice A n c, .int .i64 st, .int .i64 cp], .slice Ba ma da, .slice Bb mb db, .int .i64 at_] w fun e w' => e = .returned (.bool true) ∧ Below w.heap.size w w' := by
  have hb : Below w.heap.size w (w.alloc (.cells #[.slice A n c, .int .i64 st, .int .i64 cp] 38)) := (Below.refl _ _).alloc (Nat.le_refl _) _
  have hB := Blk.new w 38 #[.slice A n c, .int .i64 st, .int .i64 cp]
  have HA := Lib.hid (hA.below hb)
  have HIa := Lib.hid (hIa.below hb)
  have HIb := Lib.hid (hIb.below hb)
  have HB := Lib.hid hb
  have HBK := Lib.hid hB
  have HF := Lib.hid hfit
  have HSM := Lib.hid hfit.2
  clear hA hfit hIa hIb hb hB
  go_enter Try.func13, Try.ntmps13
  go_wp2_with fail
  generalize w.alloc (.cells #[.slice A n c, .int .i64 st, .int .i64 cp] 38) = w0 at HA HIa HIb HB HBK ⊢
  refine (head12_any w0).mono ?_
  rintro e w1 ⟨rfl, hb1⟩
  replace HA := Lib.hid (HA.out.below hb1)
  replace HIa := Lib.hid (HIa.out.below hb1)
  replace HIb := Lib.hid (HIb.out.below hb1)
  replace HBK := Lib.hid (HBK.out.below hb1 HBK.out.lt)
  replace HB := Lib.hid (HB.out.trans (hb1.mono HB.out.size))
  clear hb1
  have d0 := HBK.out.cell 0
  have d1 := HBK.out.cell 1
  have d2 := HBK.out.cell 2
  simp only [List.getElem?_toArray, List.getElem?_cons_zero, List.getElem?_cons_succ] at d0 d1 d2
  have hlong := long_any (st := st) (cp := cp) HA.out (fun x hx => by have := HF.out.2 x hx; omega) (by have := HF.out.1; omega)
  go_wp2_with fail
  refine hlong.mono ?_
  rintro e w2 ⟨b, rfl, hbl, hb2⟩
  cases b with
  | true =>
    replace HB := Lib.hid (HB.out.trans (hb2.mono HB.out.size))
    clear hlong hbl hb2 d0 d1 d2
    go_wp2_with fail
    go_ret
    exact ⟨rfl, HB.out⟩
  | false =>
  replace hb2 := hb2.drew
  clear hbl hlong
  replace HA := Lib.hid (HA.out.below hb2)
  replace HIa := Lib.hid (HIa.out.below hb2)
  replace HIb := Lib.hid (HIb.out.below hb2)
  replace HBK := Lib.hid (HBK.out.below hb2 HBK.out.lt)
  replace HB := Lib.hid (HB.out.trans (hb2.mono HB.out.size))
  clear hb2 d0 d1 d2
  have hS := And.intro (HBK.out.cell 0) (And.intro (HBK.out.cell 1) (HBK.out.cell 2))
  have hmade := World.ownsRow_made (base := w2.drew.heap.size) (size := 1) (e := 3) w2.drew #[] 0 (Nat.le_refl _) (Nat.zero_le _) rfl
  have hab0 := fun k hk => (hmade.lt k hk).1
  have hba : Below w2.drew.heap.size w2.drew (w2.drew.alloc (.cells #[] 3)) := (Below.refl _ _).alloc (Nat.le_refl _) _
  go_upto_region 4 with fail
  refine wp_region_T (S := fun w' => w'.cell? ⟨w.heap.size, 0, none⟩ = some (.slice A n c) ∧ w'.cell? ⟨w.heap.size, 1, none⟩ = some (.int .i64 st) ∧ w'.cell? ⟨w.heap.size, 2, none⟩ = some (.int .i64 cp)) (t := 13) (by kernel_rfl) ?_
  generalize w2.drew = V0 at HA HIa HIb HBK HB hS hba hmade hab0 ⊢
  refine wpAnyT_take (i := 0) (v := ?_) rfl (by kernel_rfl) (by kernel_rfl) (by kernel_rfl) (fun _ _ _ h => h) (by kernel_rfl) (Or.inl ⟨by rfl, ?_⟩) hS ?_
  rotate_left
  · (intro w hS; obtain ⟨s1, s2, s3⟩ := hS; go_simp; try with_reducible rfl)
  try simp only [List.getElem_toArray, List.getElem_cons_zero, Act.put, List.setIfInBounds_toArray, List.set_cons_zero, List.set_cons_succ]
  refine wpAnyT_take (i := 2) (v := ?_) rfl (by kernel_rfl) (by kernel_rfl) (by kernel_rfl) (fun _ _ _ h => h) (by kernel_rfl) (Or.inl ⟨by rfl, ?_⟩) hS ?_
  rotate_left
  · (intro w _; go_simp; try with_reducible rfl)
  try simp only [List.getElem_toArray, List.getElem_cons_succ, List.getElem_cons_zero, Act.put, List.setIfInBounds_toArray, List.set_cons_zero, List.set_cons_succ]
  refine wpAnyT_take (i := 4) (v := ?_) rfl (by kernel_rfl) (by kernel_rfl) (by kernel_rfl) (fun _ _ _ h => h) (by kernel_rfl) (Or.inl ⟨by rfl, ?_⟩) hS ?_
  rotate_left
  · (intro w _; go_simp; try with_reducible rfl)
  try simp only [List.getElem_toArray, List.getElem_cons_succ, List.getElem_cons_zero, Act.put, List.setIfInBounds_toArray, List.set_cons_zero, List.set_cons_succ]
  refine wpAnyT_take (i := 6) (v := ?_) rfl (by kernel_rfl) (by kernel_rfl) (by kernel_rfl) (fun _ _ _ h => h) (by kernel_rfl) (Or.inl ⟨by rfl, ?_⟩) hS ?_
  rotate_left
  · (intro w _; go_simp; try with_reducible rfl)
  try simp only [List.getElem_toArray, List.getElem_cons_succ, List.getElem_cons_zero, Act.put, List.setIfInBounds_toArray, List.set_cons_zero, List.set_cons_succ]
  refine wpAnyT_one (i := 1) (by kernel_rfl) rfl (fun K hK => ?_)
  go_simp
  replace hS := And.intro ((HBK.out.below hba HBK.out.lt).cell 0) (And.intro ((HBK.out.below hba HBK.out.lt).cell 1) ((HBK.out.below hba HBK.out.lt).cell 2))
  refine hK _ _ (Or.inr hS) ?_
  clear hK K
  try simp only [Array.getInternal_eq_getElem, List.getElem_toArray, List.getElem_cons_succ, List.getElem_cons_zero, Act.put, List.setIfInBounds_toArray, List.set_cons_zero, List.set_cons_succ]
  refine wpAnyT_one (i := 3) (by kernel_rfl) rfl (fun K hK => ?_)
  refine step_app _ (by rfl) _ _ 42 (by rfl) V0.heap.size 3 elI _ _ _ (by rfl) hmade 0 _ Ba ma da (i64s la) (by rfl) (HIa.out.below hba).nil (by rw [i64s_length, HIa.out.len, Nat.mul_one]) (HIa.out.below hba).rd (i64s_one _) (by unfold maxLen; omega) (by omega) (by simp) ?_
  intro v1 V1 hv1 hg1 _ _
  obtain ⟨Ao1, co1, rfl, _, _⟩ := own_form hv1
  simp only [Nat.zero_add, List.nil_append] at hv1 ⊢
  have hb1 : Below V0.heap.size V0 V1 := hba.grown hg1 (by simp) hab0
  replace hS := And.intro ((HBK.out.below hb1 HBK.out.lt).cell 0) (And.intro ((HBK.out.below hb1 HBK.out.lt).cell 1) ((HBK.out.below hb1 HBK.out.lt).cell 2))
  refine hK _ _ (Or.inr hS) ?_
  clear hK K
  try simp only [List.getElem_toArray, List.getElem_cons_succ, List.getElem_cons_zero, Act.put, List.setIfInBounds_toArray, List.set_cons_zero, List.set_cons_succ]
  refine wpAnyT_one (i := 5) (by kernel_rfl) rfl (fun K hK => ?_)
  have hs1 := hb1.size
  refine step_app _ (by rfl) _ _ 42 (by rfl) V0.heap.size 3 elI _ _ _ (by rfl) hv1 0 _ Bb mb db (i64s lb) (by rfl) (HIb.out.below hb1).nil (by rw [i64s_length, HIb.out.len, Nat.mul_one]) (HIb.out.below hb1).rd (i64s_one _) (by unfold maxLen; omega) (by omega) hs1 ?_
  intro v2 V2 hv2 hg2 _ _
  obtain ⟨Ao2, co2, rfl, _, _⟩ := own_form hv2
  rw [← i64s_append] at hv2
  have hb2 : Below V0.heap.size V0 V2 := hb1.grown hg2 hs1 (fun k hk => (hv1.lt k hk).1)
  have HO := Lib.hid (IlIn.of_own hv2 (by rw [List.length_append, HIa.out.len, HIb.out.len]))
  replace hS := And.intro ((HBK.out.below hb2 HBK.out.lt).cell 0) (And.intro ((HBK.out.below hb2 HBK.out.lt).cell 1) ((HBK.out.below hb2 HBK.out.lt).cell 2))
  refine hK _ _ (Or.inr hS) ?_
  clear hK K
  try simp only [List.getElem_toArray, List.getElem_cons_succ, List.getElem_cons_zero, Act.put, List.setIfInBounds_toArray, List.set_cons_zero, List.set_cons_succ]
  refine wpAnyT_one (i := 7) (by kernel_rfl) rfl (fun K hK => ?_)
  go_simp
  refine (closure_any (st := st) (cp := cp) (HA.out.below hb2) HSM.out HO.out at_ true).mono ?_
  rintro e w3 hc3
  obtain ⟨O1, n1, c1, xl, b1, rfl, hi3, hv3, hb3⟩ := hc3.val
  have HX := Lib.hid hi3
  have HV3 := Lib.hid hv3
  have hbt := hb2.trans (hb3.mono hb2.size)
  clear hc3 hi3 hv3 hb3
  go_simp
  replace hS := And.intro ((HBK.out.below hbt HBK.out.lt).cell 0) (And.intro ((HBK.out.below hbt HBK.out.lt).cell 1) ((HBK.out.below hbt HBK.out.lt).cell 2))
  refine hK _ _ (Or.inr hS) ?_
  clear hK K
  try simp only [Array.getInternal_eq_getElem, List.getElem_toArray, List.getElem_cons_succ, List.getElem_cons_zero, Act.put, List.setIfInBounds_toArray, List.set_cons_zero, List.set_cons_succ]
  refine wpAnyT_take (i := 8) (v := ?_) rfl (by kernel_rfl) (by kernel_rfl) (by kernel_rfl) (fun _ _ _ h => h) (by kernel_rfl) (Or.inl ⟨by rfl, ?_⟩) hS ?_
  rotate_left
  · (intro w _; go_simp; try with_reducible rfl)
  try simp only [List.getElem_toArray, List.getElem_cons_succ, List.getElem_cons_zero, Act.put, List.setIfInBounds_toArray, List.set_cons_zero, List.set_cons_succ]
  refine wpAnyT_take (i := 9) (v := ?_) rfl (by kernel_rfl) (by kernel_rfl) (by kernel_rfl) (fun _ _ _ h => h) (by kernel_rfl) (Or.inl ⟨by rfl, ?_⟩) hS ?_
  rotate_left
  · (intro w _; go_simp; try with_reducible rfl)
  try simp only [List.getElem_toArray, List.getElem_cons_succ, List.getElem_cons_zero, Act.put, List.setIfInBounds_toArray, List.set_cons_zero, List.set_cons_succ]
  refine wpAnyT_take (i := 10) (v := ?_) rfl (by kernel_rfl) (by kernel_rfl) (by kernel_rfl) (fun _ _ _ h => h) (by kernel_rfl) (Or.inl ⟨by rfl, ?_⟩) hS ?_
  rotate_left
  · (intro w _; go_simp; try with_reducible rfl)
  try simp only [List.getElem_toArray, List.getElem_cons_succ, List.getElem_cons_zero, Act.put, List.setIfInBounds_toArray, List.set_cons_zero, List.set_cons_succ]
  refine wpAnyT_take (i := 11) (v := ?_) rfl (by kernel_rfl) (by kernel_rfl) (by kernel_rfl) (fun _ _ _ h => h) (by kernel_rfl) (Or.inl ⟨by rfl, ?_⟩) hS ?_
  rotate_left
  · (intro w _; go_simp; try with_reducible rfl)
  try simp only [List.getElem_toArray, List.getElem_cons_succ, List.getElem_cons_zero, Act.put, List.setIfInBounds_toArray, List.set_cons_zero, List.set_cons_succ]
  refine wpAnyT_take (i := 12) (v := ?_) rfl (by kernel_rfl) (by kernel_rfl) (by kernel_rfl) (fun _ _ _ h => h) (by kernel_rfl) (Or.inl ⟨by rfl, ?_⟩) hS ?_
  rotate_left
  · (intro w _; go_simp; try with_reducible rfl)
  try simp only [List.getElem_toArray, List.getElem_cons_succ, List.getElem_cons_zero, Act.put, List.setIfInBounds_toArray, List.set_cons_zero, List.set_cons_succ]
  refine wpAnyT_done (by kernel_rfl) ?_ _
  replace HA := Lib.hid (HA.out.below hbt)
  replace HIa := Lib.hid (HIa.out.below hbt)
  replace HIb := Lib.hid (HIb.out.below hbt)
  replace HBK := Lib.hid (HBK.out.below hbt HBK.out.lt)
  replace HB := Lib.hid (HB.out.trans (hbt.mono HB.out.size))
  clear hbt hS hmade hab0 hba hb1 hb2 hv1 hv2 hg1 hg2 hs1 HO
  have d0 := HBK.out.cell 0
  have d1 := HBK.out.cell 1
  have d2 := HBK.out.cell 2
  simp only [List.getElem?_toArray, List.getElem?_cons_zero, List.getElem?_cons_succ] at d0 d1 d2
  have hcl := closure_any (st := st) (cp := cp) HA.out HSM.out HIa.out at_ true
  go_wp2_with fail
  refine hcl.mono ?_
  rintro e w4 hc
  obtain ⟨O2, n2, c2, xm, b2, rfl, hi, hv, hb⟩ := hc.val
  replace HA := Lib.hid (HA.out.below hb)
  replace HIa := Lib.hid (HIa.out.below hb)
  replace HIb := Lib.hid (HIb.out.below hb)
  replace HX := Lib.hid (HX.out.below hb)
  replace HBK := Lib.hid (HBK.out.below hb HBK.out.lt)
  replace HB := Lib.hid (HB.out.trans (hb.mono HB.out.size))
  have HY := Lib.hid hi
  have HV4 := Lib.hid hv
  clear hcl hc hi hv hb
  clear d0 d1 d2
  have d0 := HBK.out.cell 0
  have d1 := HBK.out.cell 1
  have d2 := HBK.out.cell 2
  simp only [List.getElem?_toArray, List.getElem?_cons_zero, List.getElem?_cons_succ] at d0 d1 d2
  have hcl := closure_any (st := st) (cp := cp) HA.out HSM.out HIb.out at_ true
  go_wp2_with fail
  refine hcl.mono ?_
  rintro e w5 hc
  obtain ⟨O3, n3, c3, xn, b3, rfl, hi, hv, hb⟩ := hc.val
  replace HA := Lib.hid (HA.out.below hb)
  replace HIa := Lib.hid (HIa.out.below hb)
  replace HIb := Lib.hid (HIb.out.below hb)
  replace HX := Lib.hid (HX.out.below hb)
  replace HY := Lib.hid (HY.out.below hb)
  replace HBK := Lib.hid (HBK.out.below hb HBK.out.lt)
  replace HB := Lib.hid (HB.out.trans (hb.mono HB.out.size))
  have HZ := Lib.hid hi
  have HV5 := Lib.hid hv
  clear hcl hc hi hv hb
  clear d0 d1 d2
  have d0 := HBK.out.cell 0
  have d1 := HBK.out.cell 1
  have d2 := HBK.out.cell 2
  simp only [List.getElem?_toArray, List.getElem?_cons_zero, List.getElem?_cons_succ] at d0 d1 d2
  by_cases h1 : PgOK n st cp L
  case neg =>
    have H1 := Lib.hid h1
    clear h1
    have hcon := pcheck_any (st := st) (cp := cp) HA.out HSM.out
    go_wp2_with fail
    refine hcon.mono ?_
    rintro e w6 ⟨v, rfl, hv, hb⟩
    obtain ⟨rfl⟩ : v = 121 := by
      rcases hv with ⟨a, b⟩ | ⟨a, b⟩
      · exact absurd b H1.out
      · exact a
    replace HA := Lib.hid (HA.out.below hb)
    replace HIa := Lib.hid (HIa.out.below hb)
    replace HIb := Lib.hid (HIb.out.below hb)
    replace HX := Lib.hid (HX.out.below hb)
    replace HY := Lib.hid (HY.out.below hb)
    replace HZ := Lib.hid (HZ.out.below hb)
    replace HBK := Lib.hid (HBK.out.below hb HBK.out.lt)
    replace HB := Lib.hid (HB.out.trans (hb.mono HB.out.size))
    clear hcon hv hb
    clear d0 d1 d2
    have d0 := HBK.out.cell 0
    have d1 := HBK.out.cell 1
    have d2 := HBK.out.cell 2
    simp only [List.getElem?_toArray, List.getElem?_cons_zero, List.getElem?_cons_succ] at d0 d1 d2
    obtain ⟨hxl, rfl⟩ : xl = [] ∧ b1 = false := by
      rcases HV3.out with ⟨_, a, b⟩ | ⟨a, b, _⟩
      · exact ⟨a, b⟩
      · exact absurd a H1.out
    have hn1 : n1 = 0 := by rw [← HX.out.len, hxl]; rfl
    subst hn1
    clear hxl d0 d1 d2
    go_wp2_with fail
    go_ret
    exact ⟨rfl, HB.out⟩
  have H1 := Lib.hid h1
  clear h1
  have hcon := pcheck_any (st := st) (cp := cp) HA.out HSM.out
  go_wp2_with fail
  refine hcon.mono ?_
  rintro e w6 ⟨v, rfl, hv, hb⟩
  obtain ⟨rfl⟩ : v = 0 := by
    rcases hv with ⟨a, b⟩ | ⟨a, b⟩
    · exact a
    · exact absurd H1.out b
  replace HA := Lib.hid (HA.out.below hb)
  replace HIa := Lib.hid (HIa.out.below hb)
  replace HIb := Lib.hid (HIb.out.below hb)
  replace HX := Lib.hid (HX.out.below hb)
  replace HY := Lib.hid (HY.out.below hb)
  replace HZ := Lib.hid (HZ.out.below hb)
  replace HBK := Lib.hid (HBK.out.below hb HBK.out.lt)
  replace HB := Lib.hid (HB.out.trans (hb.mono HB.out.size))
  clear hcon hv hb
  clear d0 d1 d2
  have d0 := HBK.out.cell 0
  have d1 := HBK.out.cell 1
  have d2 := HBK.out.cell 2
  simp only [List.getElem?_toArray, List.getElem?_cons_zero, List.getElem?_cons_succ] at d0 d1 d2
  by_cases h2 : InL n la
  case neg =>
    have H2 := Lib.hid h2
    clear h2
    have hcon := places_any (st := st) (cp := cp) HA.out HIa.out
    go_wp2_with fail
    refine hcon.mono ?_
    rintro e w7 ⟨v, rfl, hv, hb⟩
    obtain rfl : v = false := by cases v with | false => rfl | true => exact absurd (hv.1 rfl) H2.out
    replace HA := Lib.hid (HA.out.below hb)
    replace HIa := Lib.hid (HIa.out.below hb)
    replace HIb := Lib.hid (HIb.out.below hb)
    replace HX := Lib.hid (HX.out.below hb)
    replace HY := Lib.hid (HY.out.below hb)
    replace HZ := Lib.hid (HZ.out.below hb)
    replace HBK := Lib.hid (HBK.out.below hb HBK.out.lt)
    replace HB := Lib.hid (HB.out.trans (hb.mono HB.out.size))
    clear hcon hv hb
    clear d0 d1 d2
    have d0 := HBK.out.cell 0
    have d1 := HBK.out.cell 1
    have d2 := HBK.out.cell 2
    simp only [List.getElem?_toArray, List.getElem?_cons_zero, List.getElem?_cons_succ] at d0 d1 d2
    obtain ⟨hxl, rfl⟩ : xl = [] ∧ b1 = false := by
      rcases HV3.out with ⟨_, a, b⟩ | ⟨a, b, _⟩
      · exact ⟨a, b⟩
      · exact absurd (fun q hq => b q (List.mem_append_left _ hq)) H2.out
    have hn1 : n1 = 0 := by rw [← HX.out.len, hxl]; rfl
    subst hn1
    clear hxl d0 d1 d2
    go_wp2_with fail
    go_ret
    exact ⟨rfl, HB.out⟩
  have H2 := Lib.hid h2
  clear h2
  have hcon := places_any (st := st) (cp := cp) HA.out HIa.out
  go_wp2_with fail
  refine hcon.mono ?_
  rintro e w7 ⟨v, rfl, hv, hb⟩
  obtain rfl : v = true := hv.2 H2.out
  replace HA := Lib.hid (HA.out.below hb)
  replace HIa := Lib.hid (HIa.out.below hb)
  replace HIb := Lib.hid (HIb.out.below hb)
  replace HX := Lib.hid (HX.out.below hb)
  replace HY := Lib.hid (HY.out.below hb)
  replace HZ := Lib.hid (HZ.out.below hb)
  replace HBK := Lib.hid (HBK.out.below hb HBK.out.lt)
  replace HB := Lib.hid (HB.out.trans (hb.mono HB.out.size))
  clear hcon hv hb
  clear d0 d1 d2
  have d0 := HBK.out.cell 0
  have d1 := HBK.out.cell 1
  have d2 := HBK.out.cell 2
  simp only [List.getElem?_toArray, List.getElem?_cons_zero, List.getElem?_cons_succ] at d0 d1 d2
  by_cases h3 : InL n lb
  case neg =>
    have H3 := Lib.hid h3
    clear h3
    have hcon := places_any (st := st) (cp := cp) HA.out HIb.out
    go_wp2_with fail
    refine hcon.mono ?_
    rintro e w8 ⟨v, rfl, hv, hb⟩
    obtain rfl : v = false := by cases v with | false => rfl | true => exact absurd (hv.1 rfl) H3.out
    replace HA := Lib.hid (HA.out.below hb)
    replace HIa := Lib.hid (HIa.out.below hb)
    replace HIb := Lib.hid (HIb.out.below hb)
    replace HX := Lib.hid (HX.out.below hb)
    replace HY := Lib.hid (HY.out.below hb)
    replace HZ := Lib.hid (HZ.out.below hb)
    replace HBK := Lib.hid (HBK.out.below hb HBK.out.lt)
    replace HB := Lib.hid (HB.out.trans (hb.mono HB.out.size))
    clear hcon hv hb
    clear d0 d1 d2
    have d0 := HBK.out.cell 0
    have d1 := HBK.out.cell 1
    have d2 := HBK.out.cell 2
    simp only [List.getElem?_toArray, List.getElem?_cons_zero, List.getElem?_cons_succ] at d0 d1 d2
    obtain ⟨hxl, rfl⟩ : xl = [] ∧ b1 = false := by
      rcases HV3.out with ⟨_, a, b⟩ | ⟨a, b, _⟩
      · exact ⟨a, b⟩
      · exact absurd (fun q hq => b q (List.mem_append_right _ hq)) H3.out
    have hn1 : n1 = 0 := by rw [← HX.out.len, hxl]; rfl
    subst hn1
    clear hxl d0 d1 d2
    go_wp2_with fail
    go_ret
    exact ⟨rfl, HB.out⟩
  have H3 := Lib.hid h3
  clear h3
  have hcon := places_any (st := st) (cp := cp) HA.out HIb.out
  go_wp2_with fail
  refine hcon.mono ?_
  rintro e w8 ⟨v, rfl, hv, hb⟩
  obtain rfl : v = true := hv.2 H3.out
  replace HA := Lib.hid (HA.out.below hb)
  replace HIa := Lib.hid (HIa.out.below hb)
  replace HIb := Lib.hid (HIb.out.below hb)
  replace HX := Lib.hid (HX.out.below hb)
  replace HY := Lib.hid (HY.out.below hb)
  replace HZ := Lib.hid (HZ.out.below hb)
  replace HBK := Lib.hid (HBK.out.below hb HBK.out.lt)
  replace HB := Lib.hid (HB.out.trans (hb.mono HB.out.size))
  clear hcon hv hb
  clear d0 d1 d2
  have d0 := HBK.out.cell 0
  have d1 := HBK.out.cell 1
  have d2 := HBK.out.cell 2
  simp only [List.getElem?_toArray, List.getElem?_cons_zero, List.getElem?_cons_succ] at d0 d1 d2
  obtain ⟨rfl, t2, t3, t4, t5, t6⟩ := parts_law HA.out.len HV3.out HV4.out HV5.out H1.out H2.out H3.out
  have T2 := Lib.hid t2
  have T3 := Lib.hid t3
  have T4 := Lib.hid t4
  have T5 := Lib.hid t5
  have T6 := Lib.hid t6
  clear t2 t3 t4 t5 t6 d0 d1 d2 HV3 HV4 HV5 HIa HIb HA HBK
  have hl2 := HY.out.len
  have hl3 := HZ.out.len
  have hn2 : n2 ≤ 10000 := by have := T5.out; omega
  have hn3 : n3 ≤ 10000 := by have := T6.out; omega
  clear hl2 hl3
  have hmade := World.ownsRow_made (base := w8.heap.size) (size := 1) (e := 3) w8 #[] 0 (Nat.le_refl _) (Nat.zero_le _) rfl
  have hab0 := fun k hk => (hmade.lt k hk).1
  have hba : Below w8.heap.size w8 (w8.alloc (.cells #[] 3)) := (Below.refl _ _).alloc (Nat.le_refl _) _
  have hR1 := (HY.out.below hba).rd
  have hnl := HY.out.nil
  have hle : (i64s xm).length = n2 * 1 := by rw [i64s_length, HY.out.len, Nat.mul_one]
  have h1e := i64s_one xm
  have hmx : 0 + n2 ≤ maxLen := by unfold maxLen; omega
  have hbt : (0 + n2) * 8 ≤ 140737488355328 := by omega
  go_wp2_with (at_builtin; refine wpList_app _ rfl _ _ 42 rfl w8.heap.size 3 elI _ _ _ rfl hmade 0 _ O2 n2 c2 (i64s xm) rfl hnl hle hR1 h1e hmx hbt (by simp) ?_; intro v1 V1 hv1 hg1 _ _; obtain ⟨Ao, co, rfl, hd1, hd1'⟩ := own_form hv1)
  simp only [Nat.zero_add, List.nil_append] at hv1
  have hb1 : Below w8.heap.size w8 V1 := hba.grown hg1 (by simp) hab0
  have hwt : WtM w8 V1 Ao co (want xm (xn.take 0)) := ⟨hb1, (by rw [show want xm (xn.take 0) = xm by simp [want], HY.out.len]; exact hv1)⟩
  have hlw : n2 = (want xm (xn.take 0)).length := by rw [← HY.out.len]; simp [want]
  have HW0 := Lib.hid hwt
  have HLW := Lib.hid hlw
  clear hmade hab0 hba hR1 hnl hle h1e hmx hbt hd1 hd1' hv1 hg1 hb1 hwt hlw
  go_loopg [17, 16] (n3 + 1) (fun q i o W => ∃ (j oc : Nat) (O : Option Addr), q = n3 + 1 - j ∧ j ≤ n3 ∧ i = .int .i64 (j : Int) ∧ o = .slice O (want xm (xn.take j)).length oc ∧ Hid (WtM w8 W O oc (want xm (xn.take j))))
  case atStart => exact ⟨0, co, Ao, rfl, Nat.zero_le _, rfl, by rw [← HLW.out], HW0⟩
  case round =>
    obtain ⟨j, oc, O, hgk, hj, rfl, rfl, HR⟩ := hrel
    have HG := Lib.hid hgk
    have HJ := Lib.hid hj
    clear hgk hj
    by_cases hlt : j < n3
    · obtain ⟨b, o, x, rfl, hb, hx, hc⟩ := HZ.out.at hlt
      have HC := Lib.hid hc
      have hi : (j : Int) < (n3 : Int) := by omega
      have HX2 := Lib.hid hx
      have HLT := Lib.hid hlt
      obtain ⟨wo, hwo⟩ : ∃ wo, wo = wr := ⟨_, rfl⟩
      subst hwo
      clear hc hb hx hlt
      go_wp2_with fail
      go_loopg [19, 18] (n2 + 1) (fun q i o W => ∃ (k : Nat) (b : Bool), q = n2 + 1 - k ∧ k ≤ n2 ∧ i = .int .i64 (k : Int) ∧ o = .bool b ∧ Hid (Below wo.heap.size wo W) ∧ Hid (Kn b x (xm.take k)))
      case atStart => exact ⟨0, false, rfl, Nat.zero_le _, rfl, rfl, Lib.hid (Below.refl _ _), Lib.hid (Kn.nil _ _)⟩
      case round =>
        obtain ⟨k, kb, hgk, hk, rfl, rfl, HW, HK⟩ := hrel
        have HG2 := Lib.hid hgk
        have HK2 := Lib.hid hk
        clear hgk hk
        by_cases hlt2 : k < n2
        · obtain ⟨b', o', y, rfl, hb', hy, hc'⟩ := HY.out.at hlt2
          have hW8 := HR.out.below.trans (HW.out.mono HR.out.below.size)
          have c1 := HC.out wr (.of_below hW8 (Nat.le_refl _))
          have c2 := hc' wr (.of_below hW8 (Nat.le_refl _))
          have hi2 : (k : Int) < (n2 : Int) := by omega
          have hi3 : (j : Int) < (n3 : Int) := by have := HLT.out; omega
          have HLT2 := Lib.hid hlt2
          have HYX := Lib.hid hy
          clear hc' hb' hy hlt2 hW8
          cases kb with
          | true =>
            have HN : Hid (Kn true x (xm.take (k + 1))) := Lib.hid ⟨fun _ => (mem_take_succ HYX.out).2 (.inl (HK.out.1 rfl)), fun _ => rfl⟩
            go_wp2_with fail
            go_quiet (fail)
            go_wp2_with fail
            go_roundg (n2 + 1 - (k + 1))
            case measure => have := HG2.out; have := HLT2.out; omega
            case rel => exact ⟨k + 1, true, rfl, by have := HLT2.out; omega, by go_num, rfl, Lib.hid HW.out.drewN, HN⟩
          | false =>
            by_cases hxy : y = x
            · have t0 : (y == x) = true := beq_iff_eq.2 hxy
              have HN : Hid (Kn true x (xm.take (k + 1))) := Lib.hid ⟨fun _ => (mem_take_succ HYX.out).2 (.inr hxy.symm), fun _ => rfl⟩
              clear hxy
              go_wp2_with fail
              go_quiet (fail)
              go_wp2_with fail
              go_roundg (n2 + 1 - (k + 1))
              case measure => have := HG2.out; have := HLT2.out; omega
              case rel => exact ⟨k + 1, true, rfl, by have := HLT2.out; omega, by go_num, rfl, Lib.hid HW.out.drewN, HN⟩
            · have t0 : (y == x) = false := beq_eq_false_iff_ne.2 hxy
              have HN : Hid (Kn false x (xm.take (k + 1))) := Lib.hid ⟨fun h => (by cases h), fun h => ((mem_take_succ HYX.out).1 h).elim (fun h => absurd (HK.out.2 h) (by simp)) (fun h => absurd h.symm hxy)⟩
              clear hxy
              go_wp2_with fail
              go_quiet (fail)
              go_wp2_with fail
              go_roundg (n2 + 1 - (k + 1))
              case measure => have := HG2.out; have := HLT2.out; omega
              case rel => exact ⟨k + 1, false, rfl, by have := HLT2.out; omega, by go_num, rfl, Lib.hid HW.out.drewN, HN⟩
        · have hkn : k = n2 := by have := HK2.out; omega
          have hi2 : ¬ (k : Int) < (n2 : Int) := by omega
          have hall : xm.take k = xm := by rw [hkn, ← HY.out.len, List.take_length]
          have HS := Lib.hid (HR.out.on HW.out)
          have HX3 : Hid (kb = true ↔ x ∈ xm) := Lib.hid (by rw [← hall]; exact HK.out)
          clear hlt2 hkn hall
          cases kb with
          | true =>
            have hst : want xm (xn.take (j + 1)) = want xm (xn.take j) := by rw [want_snoc HX2.out, if_pos (HX3.out.1 rfl)]
            have HST := Lib.hid hst
            clear hst
            go_wp2_with fail
            go_roundg (n3 + 1 - (j + 1))
            case measure => have := HG.out; have := HLT.out; omega
            case rel => exact ⟨j + 1, oc, O, rfl, by have := HLT.out; omega, by go_num, by rw [HST.out], by rw [HST.out]; exact HS⟩
          | false =>
            have hst : want xm (xn.take (j + 1)) = want xm (xn.take j) ++ [x] := by rw [want_snoc HX2.out, if_neg (fun h => by have := HX3.out.2 h; cases this)]
            have HST := Lib.hid hst
            have c1 := HC.out wr (.of_below HS.out.below (Nat.le_refl _))
            have hi3 : (j : Int) < (n3 : Int) := by have := HLT.out; omega
            have hwl : (want xm (xn.take j)).length ≤ 20000 := by have := want_len xm xn j; have := T5.out; have := T6.out; omega
            have hown := HS.out.own
            have hsz := HS.out.below.size
            have hab := fun k hk => (hown.lt k hk).1
            clear hst
            generalize want xm (xn.take j) = wl at hown hwl HST HS HR hab ⊢
            go_wp2_with (at_builtin; refine wpList_app _ rfl _ _ 42 rfl w8.heap.size 3 elI (.slice O wl.length oc) _ _ rfl (hown.alloc _) 0 (wr.heap.size + 1) _ 1 1 [.int .i64 x] rfl (fun h => by cases h) rfl (Rd.new wr _ _ _ (Nat.zero_le _) (by omega)) (by simp [Value.oneCell']) (by unfold maxLen; omega) (by omega) (by simp; omega) ?_; intro v' W7 hO hg hb _; obtain ⟨O3', oc3, rfl, hd3, hd3'⟩ := own_form hO)
            go_roundg (n3 + 1 - (j + 1))
            case measure => have := HG.out; have := HLT.out; omega
            case rel =>
              refine ⟨j + 1, oc3, O3', rfl, by have := HLT.out; omega, by go_num, by rw [HST.out]; simp, Lib.hid ⟨(HS.out.below.alloc hsz _).grown hg (by simp; omega) hab, ?_⟩⟩
              rw [HST.out, i64s_append, List.length_append]
              exact hO
    · have hi : ¬ (j : Int) < (n3 : Int) := by omega
      have hjn : j = n3 := by have := HJ.out; omega
      have hall : xn.take j = xn := by rw [hjn, ← HZ.out.len, List.take_length]
      rw [hall] at HR ⊢
      clear hlt hjn hall
      have hwl : (want xm xn).length = n1 := by rw [← T2.out]; exact HX.out.len
      rw [hwl]
      have HWO := HR.out.own
      rw [hwl] at HWO
      have HU := Lib.hid (IlIn.of_own HWO hwl)
      have HXR := Lib.hid (HX.out.below HR.out.below)
      have HYR := Lib.hid (HY.out.below HR.out.below)
      have HBR := Lib.hid (HB.out.trans (HR.out.below.mono HB.out.size))
      have hbb : ((b2 || b3) != (b2 || b3)) = false := by simp
      have hp2 : n2 ≤ n1 := by have := T4.out.length_le; rw [HY.out.len, HX.out.len] at this; exact this
      have hcap := HX.out.le
      have hm3 := HX.out.max
      unfold maxLen at hm3
      have HTR := Lib.hid ((HX.out.take hp2).below HR.out.below)
      have HP2 := Lib.hid hp2
      have HCAP := Lib.hid hcap
      clear hwl HWO HR HG HJ HX HY HZ HB HW0 HLW hp2 hcap
      obtain ⟨wy, hwy⟩ : ∃ wy, wy = wr := ⟨_, rfl⟩
      subst hwy
      have hw1 : (n1 : Int) ≤ 9223372036854775807 := by have := HCAP.out; omega
      cases b2 <;> cases b3
      · have hnn : ((n1 : Int) != (n1 : Int)) = false := by simp
        go_wp2_with fail
        go_loopg [20] (n1 + 1) (fun q i W => ∃ j : Nat, q = n1 + 1 - j ∧ j ≤ n1 ∧ i = .int .i64 (j : Int) ∧ Hid (Below wy.heap.size wy W))
        case atStart => exact ⟨0, rfl, Nat.zero_le _, rfl, Lib.hid (Below.refl _ _)⟩
        case round =>
          obtain ⟨j, hgk, hj, rfl, HR⟩ := hrel
          have HG := Lib.hid hgk
          have HJ := Lib.hid hj
          clear hgk hj
          by_cases hlt : j < n1
          · obtain ⟨b, o, x, rfl, hb, hx, hc⟩ := HXR.out.at hlt
            have HC := Lib.hid hc
            have hi : (j : Int) < (n1 : Int) := by omega
            have HIN := Lib.hid (T3.out x (List.mem_of_getElem? hx))
            have HLT := Lib.hid hlt
            obtain ⟨wo, hwo⟩ : ∃ wo, wo = wr := ⟨_, rfl⟩
            subst hwo
            clear hc hb hx hlt
            go_wp2_with fail
            go_loopg [22, 21] (n1 + 1) (fun q i o W => ∃ (k : Nat) (b : Bool), q = n1 + 1 - k ∧ k ≤ n1 ∧ i = .int .i64 (k : Int) ∧ o = .bool b ∧ Hid (Below wo.heap.size wo W) ∧ Hid (Kn b x ((want xm xn).take k)))
            case atStart => exact ⟨0, false, rfl, Nat.zero_le _, rfl, rfl, Lib.hid (Below.refl _ _), Lib.hid (Kn.nil _ _)⟩
            case round =>
              obtain ⟨k, kb, hgk, hk, rfl, rfl, HW, HK⟩ := hrel
              have HG2 := Lib.hid hgk
              have HK2 := Lib.hid hk
              clear hgk hk
              by_cases hlt2 : k < n1
              · obtain ⟨b', o', y, rfl, hb', hy, hc'⟩ := HU.out.at hlt2
                have hW8 := HR.out.trans (HW.out.mono HR.out.size)
                have c1 := HC.out wr (.of_below hW8 (Nat.le_refl _))
                have c2 := hc' wr (.of_below hW8 (Nat.le_refl _))
                have hi2 : (k : Int) < (n1 : Int) := by omega
                have hi3 : (j : Int) < (n1 : Int) := by have := HLT.out; omega
                have HLT2 := Lib.hid hlt2
                have HYX := Lib.hid hy
                clear hc' hb' hy hlt2 hW8
                cases kb with
                | true =>
                  have HN : Hid (Kn true x ((want xm xn).take (k + 1))) := Lib.hid ⟨fun _ => (mem_take_succ HYX.out).2 (.inl (HK.out.1 rfl)), fun _ => rfl⟩
                  go_wp2_with fail
                  go_quiet (fail)
                  go_wp2_with fail
                  go_roundg (n1 + 1 - (k + 1))
                  case measure => have := HG2.out; have := HLT2.out; omega
                  case rel => exact ⟨k + 1, true, rfl, by have := HLT2.out; omega, by go_num, rfl, Lib.hid HW.out.drewN, HN⟩
                | false =>
                  by_cases hxy : y = x
                  · have t0 : (y == x) = true := beq_iff_eq.2 hxy
                    have HN : Hid (Kn true x ((want xm xn).take (k + 1))) := Lib.hid ⟨fun _ => (mem_take_succ HYX.out).2 (.inr hxy.symm), fun _ => rfl⟩
                    clear hxy
                    go_wp2_with fail
                    go_quiet (fail)
                    go_wp2_with fail
                    go_roundg (n1 + 1 - (k + 1))
                    case measure => have := HG2.out; have := HLT2.out; omega
                    case rel => exact ⟨k + 1, true, rfl, by have := HLT2.out; omega, by go_num, rfl, Lib.hid HW.out.drewN, HN⟩
                  · have t0 : (y == x) = false := beq_eq_false_iff_ne.2 hxy
                    have HN : Hid (Kn false x ((want xm xn).take (k + 1))) := Lib.hid ⟨fun h => (by cases h), fun h => ((mem_take_succ HYX.out).1 h).elim (fun h => absurd (HK.out.2 h) (by simp)) (fun h => absurd h.symm hxy)⟩
                    clear hxy
                    go_wp2_with fail
                    go_quiet (fail)
                    go_wp2_with fail
                    go_roundg (n1 + 1 - (k + 1))
                    case measure => have := HG2.out; have := HLT2.out; omega
                    case rel => exact ⟨k + 1, false, rfl, by have := HLT2.out; omega, by go_num, rfl, Lib.hid HW.out.drewN, HN⟩
              · have hkn : k = n1 := by have := HK2.out; omega
                have hi2 : ¬ (k : Int) < (n1 : Int) := by omega
                have hall : (want xm xn).take k = want xm xn := by rw [hkn, ← HU.out.len, List.take_length]
                obtain rfl : kb = true := HK.out.2 (by rw [hall]; exact HIN.out)
                have HS := Lib.hid (HR.out.trans (HW.out.mono HR.out.size))
                clear hlt2 hkn hall
                go_wp2_with fail
                go_roundg (n1 + 1 - (j + 1))
                case measure => have := HG.out; have := HLT.out; omega
                case rel => exact ⟨j + 1, rfl, by have := HLT.out; omega, by go_num, HS⟩
          · have hi : ¬ (j : Int) < (n1 : Int) := by omega
            have k0 : (n2 : Int) ≤ (n1 : Int) := by have := HP2.out; omega
            have k1 : decide ((n2 : Int) ≤ (n1 : Int)) = true := decide_eq_true k0
            have k2 : (n2 : Int) ≤ (c1 : Int) := by have := HP2.out; have := HCAP.out; omega
            have k3 : (0 : Int) ≤ (n2 : Int) := by omega
            have k4 : n2 ≤ c1 := by have := HP2.out; have := HCAP.out; omega
            have k5 : decide (n2 ≤ n1) = true := decide_eq_true HP2.out
            have hsame := sameI_any ((HTR.out).below HR.out) (HYR.out.below HR.out)
            have HS := Lib.hid HR
            clear hlt
            go_wp2_with fail
            refine hsame.mono ?_
            rintro e w9 ⟨b9, rfl, hb9, hbw9⟩
            obtain rfl : b9 = true := hb9.2 (by have h := List.prefix_iff_eq_take.1 T4.out; rw [HYR.out.len] at h; exact h.symm)
            have HE := Lib.hid (HBR.out.trans ((HR.out.trans (hbw9.mono HR.out.size)).mono HBR.out.size))
            clear hsame hb9 hbw9
            go_wp2_with fail
            go_ret
            exact ⟨rfl, HE.out⟩
      · have hnn : ((n1 : Int) != (n1 : Int)) = false := by simp
        go_wp2_with fail
        go_loopg [20] (n1 + 1) (fun q i W => ∃ j : Nat, q = n1 + 1 - j ∧ j ≤ n1 ∧ i = .int .i64 (j : Int) ∧ Hid (Below wy.heap.size wy W))
        case atStart => exact ⟨0, rfl, Nat.zero_le _, rfl, Lib.hid (Below.refl _ _)⟩
        case round =>
          obtain ⟨j, hgk, hj, rfl, HR⟩ := hrel
          have HG := Lib.hid hgk
          have HJ := Lib.hid hj
          clear hgk hj
          by_cases hlt : j < n1
          · obtain ⟨b, o, x, rfl, hb, hx, hc⟩ := HXR.out.at hlt
            have HC := Lib.hid hc
            have hi : (j : Int) < (n1 : Int) := by omega
            have HIN := Lib.hid (T3.out x (List.mem_of_getElem? hx))
            have HLT := Lib.hid hlt
            obtain ⟨wo, hwo⟩ : ∃ wo, wo = wr := ⟨_, rfl⟩
            subst hwo
            clear hc hb hx hlt
            go_wp2_with fail
            go_loopg [22, 21] (n1 + 1) (fun q i o W => ∃ (k : Nat) (b : Bool), q = n1 + 1 - k ∧ k ≤ n1 ∧ i = .int .i64 (k : Int) ∧ o = .bool b ∧ Hid (Below wo.heap.size wo W) ∧ Hid (Kn b x ((want xm xn).take k)))
            case atStart => exact ⟨0, false, rfl, Nat.zero_le _, rfl, rfl, Lib.hid (Below.refl _ _), Lib.hid (Kn.nil _ _)⟩
            case round =>
              obtain ⟨k, kb, hgk, hk, rfl, rfl, HW, HK⟩ := hrel
              have HG2 := Lib.hid hgk
              have HK2 := Lib.hid hk
              clear hgk hk
              by_cases hlt2 : k < n1
              · obtain ⟨b', o', y, rfl, hb', hy, hc'⟩ := HU.out.at hlt2
                have hW8 := HR.out.trans (HW.out.mono HR.out.size)
                have c1 := HC.out wr (.of_below hW8 (Nat.le_refl _))
                have c2 := hc' wr (.of_below hW8 (Nat.le_refl _))
                have hi2 : (k : Int) < (n1 : Int) := by omega
                have hi3 : (j : Int) < (n1 : Int) := by have := HLT.out; omega
                have HLT2 := Lib.hid hlt2
                have HYX := Lib.hid hy
                clear hc' hb' hy hlt2 hW8
                cases kb with
                | true =>
                  have HN : Hid (Kn true x ((want xm xn).take (k + 1))) := Lib.hid ⟨fun _ => (mem_take_succ HYX.out).2 (.inl (HK.out.1 rfl)), fun _ => rfl⟩
                  go_wp2_with fail
                  go_quiet (fail)
                  go_wp2_with fail
                  go_roundg (n1 + 1 - (k + 1))
                  case measure => have := HG2.out; have := HLT2.out; omega
                  case rel => exact ⟨k + 1, true, rfl, by have := HLT2.out; omega, by go_num, rfl, Lib.hid HW.out.drewN, HN⟩
                | false =>
                  by_cases hxy : y = x
                  · have t0 : (y == x) = true := beq_iff_eq.2 hxy
                    have HN : Hid (Kn true x ((want xm xn).take (k + 1))) := Lib.hid ⟨fun _ => (mem_take_succ HYX.out).2 (.inr hxy.symm), fun _ => rfl⟩
                    clear hxy
                    go_wp2_with fail
                    go_quiet (fail)
                    go_wp2_with fail
                    go_roundg (n1 + 1 - (k + 1))
                    case measure => have := HG2.out; have := HLT2.out; omega
                    case rel => exact ⟨k + 1, true, rfl, by have := HLT2.out; omega, by go_num, rfl, Lib.hid HW.out.drewN, HN⟩
                  · have t0 : (y == x) = false := beq_eq_false_iff_ne.2 hxy
                    have HN : Hid (Kn false x ((want xm xn).take (k + 1))) := Lib.hid ⟨fun h => (by cases h), fun h => ((mem_take_succ HYX.out).1 h).elim (fun h => absurd (HK.out.2 h) (by simp)) (fun h => absurd h.symm hxy)⟩
                    clear hxy
                    go_wp2_with fail
                    go_quiet (fail)
                    go_wp2_with fail
                    go_roundg (n1 + 1 - (k + 1))
                    case measure => have := HG2.out; have := HLT2.out; omega
                    case rel => exact ⟨k + 1, false, rfl, by have := HLT2.out; omega, by go_num, rfl, Lib.hid HW.out.drewN, HN⟩
              · have hkn : k = n1 := by have := HK2.out; omega
                have hi2 : ¬ (k : Int) < (n1 : Int) := by omega
                have hall : (want xm xn).take k = want xm xn := by rw [hkn, ← HU.out.len, List.take_length]
                obtain rfl : kb = true := HK.out.2 (by rw [hall]; exact HIN.out)
                have HS := Lib.hid (HR.out.trans (HW.out.mono HR.out.size))
                clear hlt2 hkn hall
                go_wp2_with fail
                go_roundg (n1 + 1 - (j + 1))
                case measure => have := HG.out; have := HLT.out; omega
                case rel => exact ⟨j + 1, rfl, by have := HLT.out; omega, by go_num, HS⟩
          · have hi : ¬ (j : Int) < (n1 : Int) := by omega
            have k0 : (n2 : Int) ≤ (n1 : Int) := by have := HP2.out; omega
            have k1 : decide ((n2 : Int) ≤ (n1 : Int)) = true := decide_eq_true k0
            have k2 : (n2 : Int) ≤ (c1 : Int) := by have := HP2.out; have := HCAP.out; omega
            have k3 : (0 : Int) ≤ (n2 : Int) := by omega
            have k4 : n2 ≤ c1 := by have := HP2.out; have := HCAP.out; omega
            have k5 : decide (n2 ≤ n1) = true := decide_eq_true HP2.out
            have hsame := sameI_any ((HTR.out).below HR.out) (HYR.out.below HR.out)
            have HS := Lib.hid HR
            clear hlt
            go_wp2_with fail
            refine hsame.mono ?_
            rintro e w9 ⟨b9, rfl, hb9, hbw9⟩
            obtain rfl : b9 = true := hb9.2 (by have h := List.prefix_iff_eq_take.1 T4.out; rw [HYR.out.len] at h; exact h.symm)
            have HE := Lib.hid (HBR.out.trans ((HR.out.trans (hbw9.mono HR.out.size)).mono HBR.out.size))
            clear hsame hb9 hbw9
            go_wp2_with fail
            go_ret
            exact ⟨rfl, HE.out⟩
      · have hnn : ((n1 : Int) != (n1 : Int)) = false := by simp
        go_wp2_with fail
        go_loopg [20] (n1 + 1) (fun q i W => ∃ j : Nat, q = n1 + 1 - j ∧ j ≤ n1 ∧ i = .int .i64 (j : Int) ∧ Hid (Below wy.heap.size wy W))
        case atStart => exact ⟨0, rfl, Nat.zero_le _, rfl, Lib.hid (Below.refl _ _)⟩
        case round =>
          obtain ⟨j, hgk, hj, rfl, HR⟩ := hrel
          have HG := Lib.hid hgk
          have HJ := Lib.hid hj
          clear hgk hj
          by_cases hlt : j < n1
          · obtain ⟨b, o, x, rfl, hb, hx, hc⟩ := HXR.out.at hlt
            have HC := Lib.hid hc
            have hi : (j : Int) < (n1 : Int) := by omega
            have HIN := Lib.hid (T3.out x (List.mem_of_getElem? hx))
            have HLT := Lib.hid hlt
            obtain ⟨wo, hwo⟩ : ∃ wo, wo = wr := ⟨_, rfl⟩
            subst hwo
            clear hc hb hx hlt
            go_wp2_with fail
            go_loopg [22, 21] (n1 + 1) (fun q i o W => ∃ (k : Nat) (b : Bool), q = n1 + 1 - k ∧ k ≤ n1 ∧ i = .int .i64 (k : Int) ∧ o = .bool b ∧ Hid (Below wo.heap.size wo W) ∧ Hid (Kn b x ((want xm xn).take k)))
            case atStart => exact ⟨0, false, rfl, Nat.zero_le _, rfl, rfl, Lib.hid (Below.refl _ _), Lib.hid (Kn.nil _ _)⟩
            case round =>
              obtain ⟨k, kb, hgk, hk, rfl, rfl, HW, HK⟩ := hrel
              have HG2 := Lib.hid hgk
              have HK2 := Lib.hid hk
              clear hgk hk
              by_cases hlt2 : k < n1
              · obtain ⟨b', o', y, rfl, hb', hy, hc'⟩ := HU.out.at hlt2
                have hW8 := HR.out.trans (HW.out.mono HR.out.size)
                have c1 := HC.out wr (.of_below hW8 (Nat.le_refl _))
                have c2 := hc' wr (.of_below hW8 (Nat.le_refl _))
                have hi2 : (k : Int) < (n1 : Int) := by omega
                have hi3 : (j : Int) < (n1 : Int) := by have := HLT.out; omega
                have HLT2 := Lib.hid hlt2
                have HYX := Lib.hid hy
                clear hc' hb' hy hlt2 hW8
                cases kb with
                | true =>
                  have HN : Hid (Kn true x ((want xm xn).take (k + 1))) := Lib.hid ⟨fun _ => (mem_take_succ HYX.out).2 (.inl (HK.out.1 rfl)), fun _ => rfl⟩
                  go_wp2_with fail
                  go_quiet (fail)
                  go_wp2_with fail
                  go_roundg (n1 + 1 - (k + 1))
                  case measure => have := HG2.out; have := HLT2.out; omega
                  case rel => exact ⟨k + 1, true, rfl, by have := HLT2.out; omega, by go_num, rfl, Lib.hid HW.out.drewN, HN⟩
                | false =>
                  by_cases hxy : y = x
                  · have t0 : (y == x) = true := beq_iff_eq.2 hxy
                    have HN : Hid (Kn true x ((want xm xn).take (k + 1))) := Lib.hid ⟨fun _ => (mem_take_succ HYX.out).2 (.inr hxy.symm), fun _ => rfl⟩
                    clear hxy
                    go_wp2_with fail
                    go_quiet (fail)
                    go_wp2_with fail
                    go_roundg (n1 + 1 - (k + 1))
                    case measure => have := HG2.out; have := HLT2.out; omega
                    case rel => exact ⟨k + 1, true, rfl, by have := HLT2.out; omega, by go_num, rfl, Lib.hid HW.out.drewN, HN⟩
                  · have t0 : (y == x) = false := beq_eq_false_iff_ne.2 hxy
                    have HN : Hid (Kn false x ((want xm xn).take (k + 1))) := Lib.hid ⟨fun h => (by cases h), fun h => ((mem_take_succ HYX.out).1 h).elim (fun h => absurd (HK.out.2 h) (by simp)) (fun h => absurd h.symm hxy)⟩
                    clear hxy
                    go_wp2_with fail
                    go_quiet (fail)
                    go_wp2_with fail
                    go_roundg (n1 + 1 - (k + 1))
                    case measure => have := HG2.out; have := HLT2.out; omega
                    case rel => exact ⟨k + 1, false, rfl, by have := HLT2.out; omega, by go_num, rfl, Lib.hid HW.out.drewN, HN⟩
              · have hkn : k = n1 := by have := HK2.out; omega
                have hi2 : ¬ (k : Int) < (n1 : Int) := by omega
                have hall : (want xm xn).take k = want xm xn := by rw [hkn, ← HU.out.len, List.take_length]
                obtain rfl : kb = true := HK.out.2 (by rw [hall]; exact HIN.out)
                have HS := Lib.hid (HR.out.trans (HW.out.mono HR.out.size))
                clear hlt2 hkn hall
                go_wp2_with fail
                go_roundg (n1 + 1 - (j + 1))
                case measure => have := HG.out; have := HLT.out; omega
                case rel => exact ⟨j + 1, rfl, by have := HLT.out; omega, by go_num, HS⟩
          · have hi : ¬ (j : Int) < (n1 : Int) := by omega
            have k0 : (n2 : Int) ≤ (n1 : Int) := by have := HP2.out; omega
            have k1 : decide ((n2 : Int) ≤ (n1 : Int)) = true := decide_eq_true k0
            have k2 : (n2 : Int) ≤ (c1 : Int) := by have := HP2.out; have := HCAP.out; omega
            have k3 : (0 : Int) ≤ (n2 : Int) := by omega
            have k4 : n2 ≤ c1 := by have := HP2.out; have := HCAP.out; omega
            have k5 : decide (n2 ≤ n1) = true := decide_eq_true HP2.out
            have hsame := sameI_any ((HTR.out).below HR.out) (HYR.out.below HR.out)
            have HS := Lib.hid HR
            clear hlt
            go_wp2_with fail
            refine hsame.mono ?_
            rintro e w9 ⟨b9, rfl, hb9, hbw9⟩
            obtain rfl : b9 = true := hb9.2 (by have h := List.prefix_iff_eq_take.1 T4.out; rw [HYR.out.len] at h; exact h.symm)
            have HE := Lib.hid (HBR.out.trans ((HR.out.trans (hbw9.mono HR.out.size)).mono HBR.out.size))
            clear hsame hb9 hbw9
            go_wp2_with fail
            go_ret
            exact ⟨rfl, HE.out⟩
      · have hnn : ((n1 : Int) != (n1 : Int)) = false := by simp
        go_wp2_with fail
        go_loopg [20] (n1 + 1) (fun q i W => ∃ j : Nat, q = n1 + 1 - j ∧ j ≤ n1 ∧ i = .int .i64 (j : Int) ∧ Hid (Below wy.heap.size wy W))
        case atStart => exact ⟨0, rfl, Nat.zero_le _, rfl, Lib.hid (Below.refl _ _)⟩
        case round =>
          obtain ⟨j, hgk, hj, rfl, HR⟩ := hrel
          have HG := Lib.hid hgk
          have HJ := Lib.hid hj
          clear hgk hj
          by_cases hlt : j < n1
          · obtain ⟨b, o, x, rfl, hb, hx, hc⟩ := HXR.out.at hlt
            have HC := Lib.hid hc
            have hi : (j : Int) < (n1 : Int) := by omega
            have HIN := Lib.hid (T3.out x (List.mem_of_getElem? hx))
            have HLT := Lib.hid hlt
            obtain ⟨wo, hwo⟩ : ∃ wo, wo = wr := ⟨_, rfl⟩
            subst hwo
            clear hc hb hx hlt
            go_wp2_with fail
            go_loopg [22, 21] (n1 + 1) (fun q i o W => ∃ (k : Nat) (b : Bool), q = n1 + 1 - k ∧ k ≤ n1 ∧ i = .int .i64 (k : Int) ∧ o = .bool b ∧ Hid (Below wo.heap.size wo W) ∧ Hid (Kn b x ((want xm xn).take k)))
            case atStart => exact ⟨0, false, rfl, Nat.zero_le _, rfl, rfl, Lib.hid (Below.refl _ _), Lib.hid (Kn.nil _ _)⟩
            case round =>
              obtain ⟨k, kb, hgk, hk, rfl, rfl, HW, HK⟩ := hrel
              have HG2 := Lib.hid hgk
              have HK2 := Lib.hid hk
              clear hgk hk
              by_cases hlt2 : k < n1
              · obtain ⟨b', o', y, rfl, hb', hy, hc'⟩ := HU.out.at hlt2
                have hW8 := HR.out.trans (HW.out.mono HR.out.size)
                have c1 := HC.out wr (.of_below hW8 (Nat.le_refl _))
                have c2 := hc' wr (.of_below hW8 (Nat.le_refl _))
                have hi2 : (k : Int) < (n1 : Int) := by omega
                have hi3 : (j : Int) < (n1 : Int) := by have := HLT.out; omega
                have HLT2 := Lib.hid hlt2
                have HYX := Lib.hid hy
                clear hc' hb' hy hlt2 hW8
                cases kb with
                | true =>
                  have HN : Hid (Kn true x ((want xm xn).take (k + 1))) := Lib.hid ⟨fun _ => (mem_take_succ HYX.out).2 (.inl (HK.out.1 rfl)), fun _ => rfl⟩
                  go_wp2_with fail
                  go_quiet (fail)
                  go_wp2_with fail
                  go_roundg (n1 + 1 - (k + 1))
                  case measure => have := HG2.out; have := HLT2.out; omega
                  case rel => exact ⟨k + 1, true, rfl, by have := HLT2.out; omega, by go_num, rfl, Lib.hid HW.out.drewN, HN⟩
                | false =>
                  by_cases hxy : y = x
                  · have t0 : (y == x) = true := beq_iff_eq.2 hxy
                    have HN : Hid (Kn true x ((want xm xn).take (k + 1))) := Lib.hid ⟨fun _ => (mem_take_succ HYX.out).2 (.inr hxy.symm), fun _ => rfl⟩
                    clear hxy
                    go_wp2_with fail
                    go_quiet (fail)
                    go_wp2_with fail
                    go_roundg (n1 + 1 - (k + 1))
                    case measure => have := HG2.out; have := HLT2.out; omega
                    case rel => exact ⟨k + 1, true, rfl, by have := HLT2.out; omega, by go_num, rfl, Lib.hid HW.out.drewN, HN⟩
                  · have t0 : (y == x) = false := beq_eq_false_iff_ne.2 hxy
                    have HN : Hid (Kn false x ((want xm xn).take (k + 1))) := Lib.hid ⟨fun h => (by cases h), fun h => ((mem_take_succ HYX.out).1 h).elim (fun h => absurd (HK.out.2 h) (by simp)) (fun h => absurd h.symm hxy)⟩
                    clear hxy
                    go_wp2_with fail
                    go_quiet (fail)
                    go_wp2_with fail
                    go_roundg (n1 + 1 - (k + 1))
                    case measure => have := HG2.out; have := HLT2.out; omega
                    case rel => exact ⟨k + 1, false, rfl, by have := HLT2.out; omega, by go_num, rfl, Lib.hid HW.out.drewN, HN⟩
              · have hkn : k = n1 := by have := HK2.out; omega
                have hi2 : ¬ (k : Int) < (n1 : Int) := by omega
                have hall : (want xm xn).take k = want xm xn := by rw [hkn, ← HU.out.len, List.take_length]
                obtain rfl : kb = true := HK.out.2 (by rw [hall]; exact HIN.out)
                have HS := Lib.hid (HR.out.trans (HW.out.mono HR.out.size))
                clear hlt2 hkn hall
                go_wp2_with fail
                go_roundg (n1 + 1 - (j + 1))
                case measure => have := HG.out; have := HLT.out; omega
                case rel => exact ⟨j + 1, rfl, by have := HLT.out; omega, by go_num, HS⟩
          · have hi : ¬ (j : Int) < (n1 : Int) := by omega
            have k0 : (n2 : Int) ≤ (n1 : Int) := by have := HP2.out; omega
            have k1 : decide ((n2 : Int) ≤ (n1 : Int)) = true := decide_eq_true k0
            have k2 : (n2 : Int) ≤ (c1 : Int) := by have := HP2.out; have := HCAP.out; omega
            have k3 : (0 : Int) ≤ (n2 : Int) := by omega
            have k4 : n2 ≤ c1 := by have := HP2.out; have := HCAP.out; omega
            have k5 : decide (n2 ≤ n1) = true := decide_eq_true HP2.out
            have hsame := sameI_any ((HTR.out).below HR.out) (HYR.out.below HR.out)
            have HS := Lib.hid HR
            clear hlt
            go_wp2_with fail
            refine hsame.mono ?_
            rintro e w9 ⟨b9, rfl, hb9, hbw9⟩
            obtain rfl : b9 = true := hb9.2 (by have h := List.prefix_iff_eq_take.1 T4.out; rw [HYR.out.len] at h; exact h.symm)
            have HE := Lib.hid (HBR.out.trans ((HR.out.trans (hbw9.mono HR.out.size)).mono HBR.out.size))
            clear hsame hb9 hbw9
            go_wp2_with fail
            go_ret
            exact ⟨rfl, HE.out⟩
end Go.Proofs.Ytbhcgjahlfpjoaa
