/- The names of a tree's groups: trees.Caps: the walk. -/
import Derived.Test.YtbhcgjahlfpjoaaQ11
import Derived.RangeFuncBox
import Derived.OwnWalkIn
namespace Go.Proofs.Ytbhcgjahlfpjoaa
open Go.RowKit Go.Shelf

attribute [local go_sem] Oper.semAt_some

def strs (l : List ByteArray) : List Value := l.map Value.string
theorem strs_at {l : List ByteArray} {k : Nat} {x : ByteArray} (h : l[k]? = some x) : (strs l)[k]? = some (.string x) := by simp [strs, h]
theorem strs_length (l : List ByteArray) : (strs l).length = l.length := by simp [strs]
theorem strs_append (a b : List ByteArray) : strs (a ++ b) = strs a ++ strs b := by simp [strs]
/-- A list of strings that lies in memory. -/
structure SlIn (w : World) (A : Option Addr) (n c : Nat) (l : List ByteArray) : Prop where
  rd : Rd w 0 w.heap.size A (strs l)
  len : l.length = n
  le : n ≤ c
  max : c ≤ maxLen
theorem SlIn.below {w w' : World} {A : Option Addr} {n c : Nat} {l : List ByteArray} (h : SlIn w A n c l) (hb : Below w.heap.size w w') : SlIn w' A n c l :=
  ⟨(h.rd.same (.of_below hb (Nat.le_refl _))).mono (Nat.le_refl _) hb.size, h.len, h.le, h.max⟩
theorem SlIn.of_own {w : World} {base : Nat} {ty : TypeId} {B : Option Addr} {m d : Nat} {s : List ByteArray} (h : w.ownsRow base ty 1 (.slice B m d) m (strs s)) (hs : s.length = m) : SlIn w B m d s := by
  obtain ⟨B', d', he, h1, h2⟩ := own_form h
  injection he with e1 _ e2
  subst e1; subst e2
  exact ⟨Rd.of_own h (Nat.zero_le _) (Nat.le_refl _), hs, h1, h2⟩
theorem SlIn.at {w : World} {A : Option Addr} {n c : Nat} {l : List ByteArray} (h : SlIn w A n c l) {k : Nat} (hk : k < n) :
    ∃ b o x, A = some ⟨b, o, none⟩ ∧ b < w.heap.size ∧ l[k]? = some x ∧ (∀ W, Same 0 w.heap.size w W → W.cell? ⟨b, o + k, none⟩ = some (.string x)) := by
  obtain ⟨b, o, hA, _, hb, hc⟩ := h.rd (by rw [strs_length, h.len]; omega)
  have hk' : k < l.length := by rw [h.len]; exact hk
  have hp : l[k]? = some l[k] := List.getElem?_eq_getElem hk'
  exact ⟨b, o, l[k], hA, hb, hp, fun W hW => (hW.cell (p := ⟨b, o + k, none⟩) (Nat.zero_le _) hb).trans (hc _ _ (strs_at hp))⟩
/-- The names of the groups, by their numbers. -/
def capL (g : List Tr) : List ByteArray := ⟨#[]⟩ :: g.map Tr.name
theorem capL_snoc (g : List Tr) (x : Tr) : capL (g ++ [x]) = capL g ++ [x.name] := by simp [capL]
theorem capL_len (g : List Tr) : (capL g).length = g.length + 1 := by simp [capL]
/-- What Caps tells. -/
def CapsB (t : Tr) (w : World) (e : Ending) (w' : World) : Prop :=
  (¬ RightP t ∧ e = .returned (.slice none 0 0) ∧ Below w.heap.size w w') ∨
  (RightP t ∧ ∃ B d, e = .returned (.slice B (capL (grp t.all)).length d) ∧ w'.ownsRow w.heap.size 9 1 (.slice B (capL (grp t.all)).length d) (capL (grp t.all)).length (strs (capL (grp t.all))) ∧ Below w.heap.size w w')
theorem Keep.appended {S : Nat → Prop} {W w1 : World} {n₀ B : Nat} {t e : TypeId} {v v' : Value} {k : Nat} {xs : List Value} {tmp : Obj} (hv : Boxed W B t v) (ht : 27 ≠ t) (hrow : W.ownsRow n₀ e 1 v k xs) (he : e ≠ 27)
    (hg : (W.alloc tmp).grownBy w1 v.ownBlock) (hb : Below n₀ W (w1.setCell ⟨B, 0, none⟩ v')) (hs : W.heap.size ≤ w1.heap.size) : Keep S n₀ W (w1.setCell ⟨B, 0, none⟩ v') :=
  ⟨hb, by rw [World.size_setCell]; exact hs, fun k' cs a _ => ((a.alloc tmp).grown hg (own_ne_blk (hrow.alloc tmp) (a.alloc tmp) he)).far (p := ⟨B, 0, none⟩) (show k' ≠ B from Blk.ne (t' := t) (cs' := #[v]) a hv ht) v'⟩
theorem infoS : (Try.prog.info? 9).map (fun i => (i.zero, i.size, i.bytes)) = some (some (.string ⟨#[]⟩), 1, 16) := by kernel_rfl

set_option maxRecDepth 100000 in
set_option maxHeartbeats 8000000 in
theorem pcaps_any {w : World} {t : Tr} {kA : Option Addr} {kn kc : Nat} {sA : Option Addr} {sn sc : Nat} (hT : TIn w t ⟨kA, kn, kc, sA, sn, sc⟩) (hp : t.parts ≤ 20000) : Calls Try.prog 21 #[.agg #[.int .i64 t.op, .slice kA kn kc, .int .i32 t.rune, .slice sA sn sc, .int .i64 t.at_, .int .i64 t.cap, .string t.name, .int .i64 t.mn, .int .i64 t.mx, .bool t.lzy]] w (CapsB t w) := by
  have hb : Below w.heap.size w (w.alloc (.cells #[.int .i64 t.op, .slice kA kn kc, .int .i32 t.rune, .slice sA sn sc, .int .i64 t.at_, .int .i64 t.cap, .string t.name, .int .i64 t.mn, .int .i64 t.mx, .bool t.lzy] 27)) := (Below.refl _ _).alloc (Nat.le_refl _) _
  have hB := TBox.newV w t kA kn kc sA sn sc
  have h10 := hB.ten
  have k0 := h10.c0
  have k1 := h10.c1
  have k2 := h10.c2
  have k3 := h10.c3
  have k4 := h10.c4
  have k5 := h10.c5
  have k6 := h10.c6
  have k7 := h10.c7
  have k8 := h10.c8
  have k9 := h10.c9
  dsimp only at k1 k3
  have HB := Lib.hid hb
  have HBX := Lib.hid hB
  have HTT := Lib.hid hT
  have hcall := tright_any (hT.on hb) hp
  have hall := t.all_len
  clear hb hB hT h10
  obtain ⟨i0, hi, hz0, hz1, hz2⟩ := info_parts infoS
  refine (callsIn_wide (n := 8)).1 ?_
  refine callsIn_of_wp_marks Try.func21 rfl trivial ?_ rfl
  simp only [Try.ntmps21, List.size_toArray, List.length_cons, List.length_nil, Nat.reduceAdd, Nat.reduceSub, Array.replicate_succ, Array.replicate_zero, List.push_toArray, List.append_toArray, List.nil_append, List.cons_append]
  gi_wp2
  refine ⟨trivial, (callsIn_wide.2 hcall).mono ?_⟩
  rintro e V ⟨b, rfl, hb, hbV⟩
  have HB2 := Lib.hid (HB.out.trans (hbV.mono HB.out.size))
  have hbx := HBX.out.below hbV
  have h10 := hbx.ten
  have hwV := Blk.lt hbx
  clear k0 k1 k2 k3 k4 k5 k6 k7 k8 k9
  clear hcall hbV HB HBX
  have k0 := h10.c0
  have k1 := h10.c1
  have k2 := h10.c2
  have k3 := h10.c3
  have k4 := h10.c4
  have k5 := h10.c5
  have k6 := h10.c6
  have k7 := h10.c7
  have k8 := h10.c8
  have k9 := h10.c9
  dsimp only at k1 k3
  have HBX := Lib.hid hbx
  clear h10 hbx
  cases b with
  | false =>
    have hno : ¬ RightP t := fun h => by have := hb.2 h; cases this
    have HNO := Lib.hid hno
    clear hno hb
    gi_wp2
    exact ⟨.slice none 0 0, by simp [results, Try.f21, go_sem], .inl ⟨HNO.out, rfl, HB2.out⟩⟩
  | true =>
    have HOK := Lib.hid (hb.1 rfl)
    clear hb
    gi_wp2_with (refine ⟨trivial, ?_⟩; gi_at_call 56; refine (all_in Fence.wide _ trivial rfl t kA kn kc sA sn sc _).mono ?_; rintro e w' ⟨rfl, rfl⟩)
    have oR := World.ownsRow_lit (base := w.heap.size) (size := 1) (e := 9) V #[.string ⟨#[]⟩] 1 (by omega) (by unfold maxLen; omega) rfl
    have bO := Boxed.new (V.alloc (.cells #[.string ⟨#[]⟩] 9)) 30 (.slice (some ⟨V.heap.size, 0, none⟩) 1 1)
    replace oR := (oR.alloc (.cells #[.slice (some ⟨V.heap.size, 0, none⟩) 1 1] 30)).alloc (.cells #[.int .i64 t.op, .slice kA kn kc, .int .i32 t.rune, .slice sA sn sc, .int .i64 t.at_, .int .i64 t.cap, .string t.name, .int .i64 t.mn, .int .i64 t.mx, .bool t.lzy] 27)
    replace bO := bO.alloc (.cells #[.int .i64 t.op, .slice kA kn kc, .int .i32 t.rune, .slice sA sn sc, .int .i64 t.at_, .int .i64 t.cap, .string t.name, .int .i64 t.mn, .int .i64 t.mx, .bool t.lzy] 27)
    have bA := TBox.newV ((V.alloc (.cells #[.string ⟨#[]⟩] 9)).alloc (.cells #[.slice (some ⟨V.heap.size, 0, none⟩) 1 1] 30)) t kA kn kc sA sn sc
    simp only [World.size_alloc] at bO bA
    have hB0 : Below w.heap.size w (((V.alloc (.cells #[.string ⟨#[]⟩] 9)).alloc (.cells #[.slice (some ⟨V.heap.size, 0, none⟩) 1 1] 30)).alloc (.cells #[.int .i64 t.op, .slice kA kn kc, .int .i32 t.rune, .slice sA sn sc, .int .i64 t.at_, .int .i64 t.cap, .string t.name, .int .i64 t.mn, .int .i64 t.mx, .bool t.lzy] 27)) := ((HB2.out.alloc (by omega) _).alloc (by simp; omega) _).alloc (by simp; omega) _
    have hsz : (((V.alloc (.cells #[.string ⟨#[]⟩] 9)).alloc (.cells #[.slice (some ⟨V.heap.size, 0, none⟩) 1 1] 30)).alloc (.cells #[.int .i64 t.op, .slice kA kn kc, .int .i32 t.rune, .slice sA sn sc, .int .i64 t.at_, .int .i64 t.cap, .string t.name, .int .i64 t.mn, .int .i64 t.mx, .bool t.lzy] 27)).heap.size = V.heap.size + 3 := by simp
    clear k0 k1 k2 k3 k4 k5 k6 k7 k8 k9
    clear HBX
    obtain ⟨W0, hW0⟩ : ∃ W0, (((V.alloc (.cells #[.string ⟨#[]⟩] 9)).alloc (.cells #[.slice (some ⟨V.heap.size, 0, none⟩) 1 1] 30)).alloc (.cells #[.int .i64 t.op, .slice kA kn kc, .int .i32 t.rune, .slice sA sn sc, .int .i64 t.at_, .int .i64 t.cap, .string t.name, .int .i64 t.mn, .int .i64 t.mx, .bool t.lzy] 27)) = W0 := ⟨_, rfl⟩
    rw [hW0] at oR bO bA hB0 hsz ⊢
    clear hW0 HB2
    generalize V.heap.size = r at oR bO bA hsz hwV ⊢
    refine wpIn_rangeFunc_ownH (α := TN w) (n := 8) rfl (by omega) (gf := 80) (lb := #[.pointer (some ⟨r + 1 + 1, 0, none⟩)]) rfl trivial (enters_of Try.func80 (by kernel_rfl) rfl)
      (all_stops Fence.wide rfl _ trivial trivial rfl W0.heap.size (fun _ => False) (fun _ h => h.elim) w (by omega) (r + 1 + 1) HTT.out hp W0 hB0 (Nat.le_refl _) bA) (fun h k => Keep.trans h k) (Keep.obj _ (by omega)) (Below.refl _ _) (fun _ => rfl)
      (fun pre W => (∃ v, Boxed W (r + 1) 30 v ∧ W.ownsRow w.heap.size 9 1 v (capL (grp (pre.map TN.tr))).length (strs (capL (grp (pre.map TN.tr)))) ∧ True) ∧ Below w.heap.size w W)
      (fun _ _ _ => False)
      (OwnFrom.and (Own.from (holdsRow_own w.heap.size (r + 1) 30 9 1 (fun (pre : List (TN w)) => (capL (grp (pre.map TN.tr))).length) (fun (pre : List (TN w)) => strs (capL (grp (pre.map TN.tr)))) (fun _ _ => True)) _) (ownFrom_below (Nat.le_refl _) (by omega)))
      (fun _ _ _ _ _ hs _ _ => hs)
      ⟨⟨_, bO, by simpa [capL, grp, strs] using oR, trivial⟩, hB0⟩
      (fun x a' W => ∃ Bx, r + 1 < Bx ∧ TBox W Bx x.1.1 x.1.2 ∧ a' = { tmps := #[.agg #[.int .i64 t.op, .slice kA kn kc, .int .i32 t.rune, .slice sA sn sc, .int .i64 t.at_, .int .i64 t.cap, .string t.name, .int .i64 t.mn, .int .i64 t.mx, .bool t.lzy], .pointer (some ⟨w.heap.size, 0, none⟩), .slice none 0 0, .pointer (some ⟨r + 1, 0, none⟩), .pointer (some ⟨Bx, 0, none⟩), .agg #[.int .i64 t.op, .slice kA kn kc, .int .i32 t.rune, .slice sA sn sc, .int .i64 t.at_, .int .i64 t.cap, .string t.name, .int .i64 t.mn, .int .i64 t.mx, .bool t.lzy], .bool true, .bool false, .slice (some ⟨r, 0, none⟩) 1 1, .agg #[.int .i64 t.op, .slice kA kn kc, .int .i32 t.rune, .slice sA sn sc, .int .i64 t.at_, .int .i64 t.cap, .string t.name, .int .i64 t.mn, .int .i64 t.mx, .bool t.lzy], .func (.func 80) #[] #[.pointer (some ⟨r + 1 + 1, 0, none⟩)], .agg #[.int .i64 x.1.1.op, .slice x.1.2.kA x.1.2.kn x.1.2.kc, .int .i32 x.1.1.rune, .slice x.1.2.sA x.1.2.sn x.1.2.sc, .int .i64 x.1.1.at_, .int .i64 x.1.1.cap, .string x.1.1.name, .int .i64 x.1.1.mn, .int .i64 x.1.1.mx, .bool x.1.1.lzy], undef, undef, undef, undef, undef, undef, undef, undef, undef], defers := [] })
      (fun x a' _ X Y row hs hg hr => by obtain ⟨Bx, e1, e2, e3⟩ := hs; exact ⟨Bx, e1, ownFrom_blk (β := Unit) _ Bx _ _ () X Y row e2 hg hr, e3⟩)
      ?assign ?body ?done ?stop
    case assign =>
      rintro l pre x W K ⟨⟨v, hv, hrow, _⟩, hB1⟩ hK
      gi_wp2
      exact hK _ _ ((KeepsOthers.alloc _ _).from _) (Keep.alloc _ hB1.size _) ⟨⟨v, hv.alloc _, hrow.alloc _, trivial⟩, hB1.alloc hB1.size _⟩ ⟨W.heap.size, hv.lt, TBox.newA W _ _, rfl⟩
    case body =>
      rintro l pre ⟨⟨p, x⟩, hx, hxp⟩ a' W hl ⟨rs, hr⟩ ⟨⟨v, hv, hrow, _⟩, hB1⟩ ⟨Bx, hBx, bX, rfl⟩ hlt
      dsimp only at hx hxp bX ⊢
      have hpt : (pre ++ [(⟨⟨p, x⟩, hx, hxp⟩ : TN w)]).map TN.tr = pre.map TN.tr ++ [p] := by simp [TN.tr]
      have hLL : (capL (grp (pre.map TN.tr))).length ≤ 20001 := by
        have h2 := grp_len (pre.map TN.tr)
        rw [List.length_map] at h2
        rw [capL_len]
        omega
      have HPT := Lib.hid hpt
      have HX := Lib.hid bX
      have hsB := hB1.size
      have hW0 : r + 1 < W.heap.size := hv.lt
      have k0 := bX.ten.c0
      have k6 := bX.ten.c6
      have hc := hv.cell
      have HSZ := Lib.hid hsz
      clear hpt bX hr hlt hsz
      by_cases h6 : p.op = 6
      · have t0 : (p.op == 6) = true := beq_iff_eq.2 h6
        have hgp : capL (grp ((pre ++ [(⟨⟨p, x⟩, hx, hxp⟩ : TN w)]).map TN.tr)) = capL (grp (pre.map TN.tr)) ++ [p.name] := by
          rw [HPT.out, grp_app, grp_one, if_pos h6, capL_snoc]
        have HGP := Lib.hid hgp
        clear h6 hgp
        gi_wp2_with (gi_at_builtin; refine wpListIn_append_own _ rfl _ _ 30 rfl w.heap.size 9 i0 (.string ⟨#[]⟩) 1 16 Try.underlying30 hi hz0 hz1 hz2 rfl (by decide) _ _ _ rfl (hrow.alloc _) ⟨W.heap.size, 0, none⟩ 1 1 [.string p.name] rfl rfl (cell_one_new _ _ _) (by simp [Value.oneCell']) (by unfold maxLen; omega) (by omega) (by simp; omega) ?_; intro v' w1 hown' hgrow _; obtain ⟨g', cap', rfl⟩ := ownsRow_succ hown'; obtain ⟨hv1, hv2, hr2, hk2, hb2⟩ := hv.appended (by decide) hrow hsB (by omega) hown' hgrow; have hc1 := hv1.cell; have hf1 := hv1.frozen)
        exact ⟨hk2.from _, Keep.appended hv (by decide) hrow (by decide) hgrow hb2 (by have := hgrow.size; rw [World.size_alloc] at this; omega), ⟨_, hv2, by rw [HGP.out, List.length_append, strs_append]; exact hr2⟩, hB1.trans hb2⟩
      · have t0 : (p.op == 6) = false := beq_eq_false_iff_ne.2 h6
        have hgp : grp ((pre ++ [(⟨⟨p, x⟩, hx, hxp⟩ : TN w)]).map TN.tr) = grp (pre.map TN.tr) := by
          rw [HPT.out, grp_app, grp_one, if_neg h6, List.append_nil]
        have HGP := Lib.hid hgp
        clear hgp h6
        gi_wp2
        exact ⟨KeepsFrom.refl _ _, Keep.refl _ _ _, ⟨v, hv, by rw [HGP.out]; exact hrow⟩, hB1⟩
    case done =>
      rintro D ys W hD hys ⟨⟨v, hv, hrow, _⟩, hB1⟩ hK
      have hc := hv.cell
      have HYS := Lib.hid hys
      clear hys
      obtain ⟨B, d, rfl, _, _⟩ := own_form hrow
      gi_wp2
      refine ⟨by simp, .inl ⟨_, _, rfl, run_takeDeferred hK, ?_⟩⟩
      refine ⟨_, results_tmp rfl _ _ _, .inr ⟨HOK.out, B, d, ?_, ?_, hB1.trans (belowK_b (w := w) (Nat.le_refl _) W D _ _ (by omega) hK rfl rfl)⟩⟩
      · rw [← HYS.out]; rfl
      · rw [← HYS.out]; exact ownsRow_putObj hrow _ hK rfl
    case stop =>
      rintro D c pre W _ _ h _
      exact h.elim
end Go.Proofs.Ytbhcgjahlfpjoaa
