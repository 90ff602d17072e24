/- Does a tree fit nothing more: trees.Still: the walk. -/
import Derived.Test.YtbhcgjahlfpjoaaQ25
namespace Go.Proofs.Ytbhcgjahlfpjoaa
open Go.RowKit Go.Shelf

attribute [local go_sem] Oper.semAt_some

set_option maxRecDepth 100000 in
set_option maxHeartbeats 4000000 in
theorem pStill_any {w : World} {t : Tr} {kA : Option Addr} {kn kc : Nat} {sA : Option Addr} {sn sc : Nat} (hT : TIn w t ⟨kA, kn, kc, sA, sn, sc⟩) (hp : t.parts ≤ 20000) : Calls Try.prog 29 #[.agg #[.int .i64 t.op, .slice kA kn kc, .int .i32 t.rune, .slice sA sn sc, .int .i64 t.at_, .int .i64 t.cap, .string t.name, .int .i64 t.mn, .int .i64 t.mx, .bool t.lzy]] w (YesB (RightP t ∧ StillP t) w) := by
  have hb : Below w.heap.size w ((w.alloc (.cells #[.int .i64 t.op, .slice kA kn kc, .int .i32 t.rune, .slice sA sn sc, .int .i64 t.at_, .int .i64 t.cap, .string t.name, .int .i64 t.mn, .int .i64 t.mx, .bool t.lzy] 27)).alloc (.cells #[.bool false] 4)) := ((Below.refl _ _).alloc (Nat.le_refl _) _).alloc (by simp) _
  have hB := (TBox.newV w t kA kn kc sA sn sc).below (show Below (w.alloc (.cells #[.int .i64 t.op, .slice kA kn kc, .int .i32 t.rune, .slice sA sn sc, .int .i64 t.at_, .int .i64 t.cap, .string t.name, .int .i64 t.mn, .int .i64 t.mx, .bool t.lzy] 27)).heap.size _ ((w.alloc (.cells #[.int .i64 t.op, .slice kA kn kc, .int .i32 t.rune, .slice sA sn sc, .int .i64 t.at_, .int .i64 t.cap, .string t.name, .int .i64 t.mn, .int .i64 t.mx, .bool t.lzy] 27)).alloc (.cells #[.bool false] 4)) from (Below.refl _ _).alloc (Nat.le_refl _) _)
  have hR := Blk.new (w.alloc (.cells #[.int .i64 t.op, .slice kA kn kc, .int .i32 t.rune, .slice sA sn sc, .int .i64 t.at_, .int .i64 t.cap, .string t.name, .int .i64 t.mn, .int .i64 t.mx, .bool t.lzy] 27)) 4 #[.bool false]
  have hTon := hT.on hb
  rw [World.size_alloc] at hR
  obtain ⟨W1, hW1⟩ : ∃ W1, (w.alloc (.cells #[.int .i64 t.op, .slice kA kn kc, .int .i32 t.rune, .slice sA sn sc, .int .i64 t.at_, .int .i64 t.cap, .string t.name, .int .i64 t.mn, .int .i64 t.mx, .bool t.lzy] 27)).alloc (.cells #[.bool false] 4) = W1 := ⟨_, rfl⟩
  rw [hW1] at hb hB hR hTon
  have hcall := tright_any hTon hp
  have h10 := hB.ten
  have k0 := h10.c0
  have k1 := h10.c1
  have k2 := h10.c2
  have k3 := h10.c3
  have k4 := h10.c4
  have k5 := h10.c5
  have k6 := h10.c6
  have k7 := h10.c7
  have k8 := h10.c8
  have k9 := h10.c9
  dsimp only at k1 k3
  have HTT := Lib.hid hT
  have HB := Lib.hid hb
  have HBX := Lib.hid hB
  have HRB := Lib.hid hR
  clear hb hB hR hT hTon h10
  refine (callsIn_wide (n := 8)).1 ?_
  refine callsIn_of_wp_marks Try.func29 rfl trivial ?_ rfl
  simp only [Try.ntmps29, List.size_toArray, List.length_cons, List.length_nil, Nat.reduceAdd, Nat.reduceSub, Array.replicate_succ, Array.replicate_zero, List.push_toArray, List.append_toArray, List.nil_append, List.cons_append]
  gi_wp2
  refine ⟨trivial, (callsIn_wide.2 hcall).mono ?_⟩
  rintro e V ⟨b, rfl, hv, hbV⟩
  have HV := Lib.hid hv
  replace HB := Lib.hid (HB.out.trans (hbV.mono HB.out.size))
  replace HBX := Lib.hid (HBX.out.below hbV)
  replace HRB := Lib.hid (HRB.out.below hbV HRB.out.lt)
  have hlt1 := HRB.out.lt
  clear k0 k1 k2 k3 k4 k5 k6 k7 k8 k9
  clear hcall hv hbV hW1
  have h10 := HBX.out.ten
  have k0 := h10.c0
  have k1 := h10.c1
  have k2 := h10.c2
  have k3 := h10.c3
  have k4 := h10.c4
  have k5 := h10.c5
  have k6 := h10.c6
  have k7 := h10.c7
  have k8 := h10.c8
  have k9 := h10.c9
  dsimp only at k1 k3
  have cR := HRB.out.cell 0
  have fR := HRB.out.frozen 0
  simp only [List.getElem?_toArray, List.getElem?_cons_zero] at cR
  clear h10
  cases b with
  | false =>
    have hno : ¬ (RightP t ∧ StillP t) := fun h => by have := HV.out.2 h.1; cases this
    have HNO := Lib.hid hno
    clear hno HV
    gi_wp2
    have hc5 := (HRB.out.set 0 (.bool false)).cell 0
    exact ⟨.bool false, by simp [results, Try.f29, go_sem, hc5], .no HNO.out (HB.out.setCell (p := ⟨w.heap.size + 1, 0, none⟩) (by simp) _)⟩
  | true =>
  have HOK := Lib.hid (HV.out.1 rfl)
  clear HV
  gi_wp2_with (refine ⟨trivial, ?_⟩; gi_at_call 56; refine (all_in Fence.wide _ trivial rfl t kA kn kc sA sn sc _).mono ?_; rintro e w' ⟨rfl, rfl⟩)
  clear k0 k1 k2 k3 k4 k5 k6 k7 k8 k9
  clear cR fR
  have bR := HRB.out.alloc (.cells #[.int .i64 t.op, .slice kA kn kc, .int .i32 t.rune, .slice sA sn sc, .int .i64 t.at_, .int .i64 t.cap, .string t.name, .int .i64 t.mn, .int .i64 t.mx, .bool t.lzy] 27)
  have bA := TBox.newV V t kA kn kc sA sn sc
  have hB0 := HB.out.alloc HB.out.size (.cells #[.int .i64 t.op, .slice kA kn kc, .int .i32 t.rune, .slice sA sn sc, .int .i64 t.at_, .int .i64 t.cap, .string t.name, .int .i64 t.mn, .int .i64 t.mx, .bool t.lzy] 27)
  have hsz : (V.alloc (.cells #[.int .i64 t.op, .slice kA kn kc, .int .i32 t.rune, .slice sA sn sc, .int .i64 t.at_, .int .i64 t.cap, .string t.name, .int .i64 t.mn, .int .i64 t.mx, .bool t.lzy] 27)).heap.size = V.heap.size + 1 := by simp
  obtain ⟨W0, hW0⟩ : ∃ W0, V.alloc (.cells #[.int .i64 t.op, .slice kA kn kc, .int .i32 t.rune, .slice sA sn sc, .int .i64 t.at_, .int .i64 t.cap, .string t.name, .int .i64 t.mn, .int .i64 t.mx, .bool t.lzy] 27) = W0 := ⟨_, rfl⟩
  rw [hW0] at bR bA hB0 hsz ⊢
  clear hW0 HB HBX HRB
  generalize V.heap.size = r at bA hsz hlt1 ⊢
  refine wpIn_rangeFunc_ownH (α := TN w) (n := 8) rfl (by omega) (gf := 80) (lb := #[.pointer (some ⟨r, 0, none⟩)]) rfl trivial (enters_of Try.func80 (by kernel_rfl) rfl)
    (all_stops Fence.wide rfl _ trivial trivial rfl W0.heap.size (fun _ => False) (fun _ h => h.elim) w (by omega) r HTT.out hp W0 hB0 (Nat.le_refl _) bA) (fun h k => Keep.trans h k) (Keep.obj _ (by omega)) (Below.refl _ _) (fun _ => rfl)
    (fun pre W => ((∀ x ∈ pre, StillO x.1.1) ∧ Blk W (w.heap.size + 1) 4 #[.bool false]) ∧ Below w.heap.size w W)
    (fun c pre W => ((c = .ret ∧ ∃ x ∈ pre, ¬ StillO x.1.1) ∧ Blk W (w.heap.size + 1) 4 #[.bool false]) ∧ Below w.heap.size w W)
    (OwnFrom.and (OwnFrom.and (ownFrom_pure _ _) (ownFrom_blk _ _ _ _)) (ownFrom_below (Nat.le_refl _) (by omega)))
    (fun c => OwnFrom.and (OwnFrom.and (ownFrom_pure _ _) (ownFrom_blk _ _ _ _)) (ownFrom_below (Nat.le_refl _) (by omega)))
    ⟨⟨by simp, bR⟩, hB0⟩
    (fun x a' W => ∃ Bx, w.heap.size + 1 < Bx ∧ TBox W Bx x.1.1 x.1.2 ∧ a' = { tmps := #[.agg #[.int .i64 t.op, .slice kA kn kc, .int .i32 t.rune, .slice sA sn sc, .int .i64 t.at_, .int .i64 t.cap, .string t.name, .int .i64 t.mn, .int .i64 t.mx, .bool t.lzy], .pointer (some ⟨w.heap.size, 0, none⟩), .pointer (some ⟨w.heap.size + 1, 0, none⟩), .pointer (some ⟨Bx, 0, none⟩), .agg #[.int .i64 t.op, .slice kA kn kc, .int .i32 t.rune, .slice sA sn sc, .int .i64 t.at_, .int .i64 t.cap, .string t.name, .int .i64 t.mn, .int .i64 t.mx, .bool t.lzy], .bool true, .bool false, .agg #[.int .i64 t.op, .slice kA kn kc, .int .i32 t.rune, .slice sA sn sc, .int .i64 t.at_, .int .i64 t.cap, .string t.name, .int .i64 t.mn, .int .i64 t.mx, .bool t.lzy], .func (.func 80) #[] #[.pointer (some ⟨r, 0, none⟩)], .agg #[.int .i64 x.1.1.op, .slice x.1.2.kA x.1.2.kn x.1.2.kc, .int .i32 x.1.1.rune, .slice x.1.2.sA x.1.2.sn x.1.2.sc, .int .i64 x.1.1.at_, .int .i64 x.1.1.cap, .string x.1.1.name, .int .i64 x.1.1.mn, .int .i64 x.1.1.mx, .bool x.1.1.lzy], undef, undef, undef, undef, undef, undef, undef, undef], defers := [] })
    (fun x a' _ X Y row hs hg hr => by obtain ⟨Bx, e1, e2, e3⟩ := hs; exact ⟨Bx, e1, ownFrom_blk (β := Unit) _ Bx _ _ () X Y row e2 hg hr, e3⟩)
    ?assign ?body ?done ?stop
  case assign =>
    rintro l pre x W K ⟨⟨hp1, bR1⟩, hB1⟩ hK
    gi_wp2
    exact hK _ _ ((KeepsOthers.alloc _ _).from _) (Keep.alloc _ hB1.size _) ⟨⟨hp1, bR1.alloc _⟩, hB1.alloc hB1.size _⟩ ⟨W.heap.size, Blk.lt bR1, TBox.newA W _ _, rfl⟩
  case body =>
    rintro l pre ⟨⟨p, x⟩, hx, hxp⟩ a' W hl ⟨rs, hr⟩ ⟨⟨hpre, bR1⟩, hB1⟩ ⟨Bx, hBx, bX, rfl⟩ hlt
    dsimp only at hx hxp bX ⊢
    have k0 := bX.ten.c0
    have cR := bR1.cell 0
    have fR := bR1.frozen 0
    simp only [List.getElem?_toArray, List.getElem?_cons_zero] at cR
    have hgo : StillO p → KeepsFrom W0.heap.size W W ∧ Keep (fun _ => False) w.heap.size W W ∧ ((∀ z ∈ pre ++ [⟨⟨p, x⟩, hx, hxp⟩], StillO z.1.1) ∧ Blk W (w.heap.size + 1) 4 #[.bool false]) ∧ Below w.heap.size w W := fun h =>
      ⟨KeepsFrom.refl _ _, Keep.refl _ _ _, ⟨fun z hz => (List.mem_append.1 hz).elim (hpre z) (fun e => by rw [List.mem_singleton] at e; subst e; exact h), bR1⟩, hB1⟩
    have hno : ¬ StillO p → KeepsFrom W0.heap.size W (W.setCell ⟨w.heap.size + 1, 0, none⟩ (.bool false)) ∧ (∃ z ∈ pre ++ [⟨⟨p, x⟩, hx, hxp⟩], ¬ StillO z.1.1) ∧ Blk (W.setCell ⟨w.heap.size + 1, 0, none⟩ (.bool false)) (w.heap.size + 1) 4 #[.bool false] ∧ Below w.heap.size w (W.setCell ⟨w.heap.size + 1, 0, none⟩ (.bool false)) := fun h =>
      ⟨(KeepsOthers.setCell _ _ _).from _, ⟨_, List.mem_append.2 (.inr (List.mem_singleton.2 rfl)), h⟩, bR1.set 0 (.bool false), hB1.setCell (p := ⟨w.heap.size + 1, 0, none⟩) (by simp) _⟩
    have HGO := Lib.hid hgo
    have HNO := Lib.hid hno
    have HSZ := Lib.hid hsz
    clear hgo hno bX hpre bR1 hB1 hr hlt hsz
    by_cases h3 : p.op = 3
    · have d3 : (p.op == 3) = true := beq_iff_eq.2 h3
      have HN := HNO.out fun h => h.1 h3
      have HH := Lib.hid HN
      clear h3 HN
      gi_wp2
      exact ⟨HH.out.1, ⟨⟨rfl, HH.out.2.1⟩, HH.out.2.2.1⟩, HH.out.2.2.2⟩
    have d3 : (p.op == 3) = false := beq_eq_false_iff_ne.2 h3
    by_cases h4 : p.op = 4
    · have d4 : (p.op == 4) = true := beq_iff_eq.2 h4
      have HN := HNO.out fun h => h.2 h4
      have HH := Lib.hid HN
      clear h3 h4 HN
      gi_wp2
      exact ⟨HH.out.1, ⟨⟨rfl, HH.out.2.1⟩, HH.out.2.2.1⟩, HH.out.2.2.2⟩
    have d4 : (p.op == 4) = false := beq_eq_false_iff_ne.2 h4
    have HN := HGO.out ⟨h3, h4⟩
    have HH := Lib.hid HN
    clear h3 h4 HN
    gi_wp2
    exact HH.out
  case done =>
    rintro D ys W hD hys ⟨⟨hall, bR1⟩, hB1⟩ hK
    have cR := bR1.cell 0
    have fR := bR1.frozen 0
    simp only [List.getElem?_toArray, List.getElem?_cons_zero] at cR
    have hok : StillP t := fun p hp' => by
      rw [← hys] at hp'
      obtain ⟨z, hz, rfl⟩ := List.mem_map.1 hp'
      exact hall z hz
    have HSP := Lib.hid hok
    clear hall hok hys
    gi_wp2
    have hK' := (KeepsOthers.setCell W ⟨w.heap.size + 1, 0, none⟩ (.bool true)).same D _ hK rfl
    refine ⟨by simp, .inl ⟨_, _, rfl, run_takeDeferred hK', ?_⟩⟩
    have hc5 := cell_kept ((bR1.set 0 (.bool true)).cell 0) (grownBy_putObj' _ D (.deferred none)) (fun r e => by cases e; exact ⟨_, hK', rfl⟩)
    refine ⟨.bool true, ?_, YesB.yes ⟨HOK.out, HSP.out⟩ ((hB1.setCell (p := ⟨w.heap.size + 1, 0, none⟩) (by simp) _).trans (belowK_b (w := w) (Nat.le_refl _) _ D _ _ (by omega) hK' rfl rfl))⟩
    simp [results, Try.f29, go_sem, hc5]
  case stop =>
    rintro D c pre W hD hpre ⟨⟨⟨rfl, z, hz, hnz⟩, bR1⟩, hB1⟩ hK
    have hno : ¬ (RightP t ∧ StillP t) := fun h => hnz (h.2 z.1.1 (hpre.subset (List.mem_map.2 ⟨z, hz, rfl⟩)))
    have HNO := Lib.hid hno
    clear hno hnz hz hpre
    gi_wp2
    refine ⟨by simp, .inl ⟨_, _, rfl, run_takeDeferred hK, ?_⟩⟩
    have hc5 := cell_kept (bR1.cell 0) (grownBy_putObj' _ D (.deferred none)) (fun r e => by cases e; exact ⟨_, hK, rfl⟩)
    refine ⟨.bool false, ?_, YesB.no HNO.out (hB1.trans (belowK_b (w := w) (Nat.le_refl _) W D _ _ (by omega) hK rfl rfl))⟩
    simp [results, Try.f29, go_sem, hc5]
end Go.Proofs.Ytbhcgjahlfpjoaa
