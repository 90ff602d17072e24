/- Is a tree right but for its groups: trees.Shaped: the walk. -/
import Derived.Test.YtbhcgjahlfpjoaaQ5
import Derived.Test.YtbhcgjahlfpjoaaQ8
namespace Go.Proofs.Ytbhcgjahlfpjoaa
open Go.RowKit Go.Shelf

attribute [local go_sem] Oper.semAt_some

theorem Keep.obj (S : Nat → Prop) {m0 : Nat} {w : World} (hn : m0 ≤ w.heap.size) (W : World) (l : Nat) (o o' : Obj) (hl : w.heap.size ≤ l) (h : W.heap[l]? = some o) (hc : o.isCells = false) (hk : o.isWalk = false) : Keep S m0 W (W.putObj l o') :=
  ⟨belowK_b hn W l o o' hl h hc hk, by simp, fun k cs hk' _ => by
    have hne : k ≠ l := by rintro rfl; rw [show W.heap[k]? = _ from hk'] at h; injection h with e; subst e; cases hc
    exact (World.putObj_heap_other hne).trans hk'⟩
theorem ownFrom_blk {β : Type} (B g : Nat) (t : TypeId) (cs : Array Value) : OwnFrom B (fun (_ : β) W => Blk W g t cs) := fun _ W W' row hs hg hr => hs.grown hg fun e => by
  obtain ⟨_, o, ho, hc⟩ := hr g e
  rw [show W.heap[g]? = _ from hs] at ho
  cases ho
  cases hc
theorem keepsFrom_below {B : Nat} {W V : World} (h : Below W.heap.size W V) : KeepsFrom B W V := ⟨h.size, fun k _ _ hk _ => (h.block k (Array.getElem?_eq_some_iff.1 hk).1).trans hk⟩
/-- May a part be, and has a group a number. -/
def OkS (t : Tr) : Prop := OkP t ∧ (t.op = 6 → 1 ≤ t.cap)
/-- Is a tree right but for its groups' numbers and names, its depth and its weight? -/
def ShapedP (t : Tr) : Prop := ∀ p ∈ t.all, OkS p
theorem TIn.setLen {w : World} {t : Tr} {kA : Option Addr} {kn kc : Nat} {sA : Option Addr} {sn sc : Nat} (h : TIn w t ⟨kA, kn, kc, sA, sn, sc⟩) (hp : t.parts ≤ 20000) : sn ≤ 1000000 := by
  have := h.set.len
  rw [Tr.parts_eq] at hp
  dsimp only at this
  omega
theorem TIn.setLenX {w : World} {t : Tr} {a : TA} (h : TIn w t a) (hp : t.parts ≤ 20000) : a.sn ≤ 1000000 := by
  have := h.set.len
  rw [Tr.parts_eq] at hp
  omega
set_option maxRecDepth 100000 in
set_option maxHeartbeats 4000000 in
theorem pshaped_any {w : World} {t : Tr} {kA : Option Addr} {kn kc : Nat} {sA : Option Addr} {sn sc : Nat} (hT : TIn w t ⟨kA, kn, kc, sA, sn, sc⟩) (hp : t.parts ≤ 20000) : Calls Try.prog 25 #[.agg #[.int .i64 t.op, .slice kA kn kc, .int .i32 t.rune, .slice sA sn sc, .int .i64 t.at_, .int .i64 t.cap, .string t.name, .int .i64 t.mn, .int .i64 t.mx, .bool t.lzy]] w (YesB (ShapedP t) w) := by
  refine (callsIn_wide (n := 8)).1 ?_
  refine callsIn_of_wp_marks Try.func25 rfl trivial ?_ rfl
  simp only [Try.ntmps25, List.size_toArray, List.length_cons, List.length_nil, Nat.reduceAdd, Nat.reduceSub, Array.replicate_succ, Array.replicate_zero, List.push_toArray, List.append_toArray, List.nil_append, List.cons_append]
  gi_wp2_with (refine ⟨trivial, ?_⟩; gi_at_call 56; refine (all_in Fence.wide _ trivial rfl t kA kn kc sA sn sc _).mono ?_; rintro e w' ⟨rfl, rfl⟩)
  have bR := (Blk.new (w.alloc (.cells #[.int .i64 t.op, .slice kA kn kc, .int .i32 t.rune, .slice sA sn sc, .int .i64 t.at_, .int .i64 t.cap, .string t.name, .int .i64 t.mn, .int .i64 t.mx, .bool t.lzy] 27)) 4 #[.bool false]).alloc (.cells #[.int .i64 t.op, .slice kA kn kc, .int .i32 t.rune, .slice sA sn sc, .int .i64 t.at_, .int .i64 t.cap, .string t.name, .int .i64 t.mn, .int .i64 t.mx, .bool t.lzy] 27)
  have bA := TBox.newV ((w.alloc (.cells #[.int .i64 t.op, .slice kA kn kc, .int .i32 t.rune, .slice sA sn sc, .int .i64 t.at_, .int .i64 t.cap, .string t.name, .int .i64 t.mn, .int .i64 t.mx, .bool t.lzy] 27)).alloc (.cells #[.bool false] 4)) t kA kn kc sA sn sc
  simp only [World.size_alloc] at bR bA
  have hB0 : Below w.heap.size w (((w.alloc (.cells #[.int .i64 t.op, .slice kA kn kc, .int .i32 t.rune, .slice sA sn sc, .int .i64 t.at_, .int .i64 t.cap, .string t.name, .int .i64 t.mn, .int .i64 t.mx, .bool t.lzy] 27)).alloc (.cells #[.bool false] 4)).alloc (.cells #[.int .i64 t.op, .slice kA kn kc, .int .i32 t.rune, .slice sA sn sc, .int .i64 t.at_, .int .i64 t.cap, .string t.name, .int .i64 t.mn, .int .i64 t.mx, .bool t.lzy] 27)) := (((Below.refl _ w).alloc (Nat.le_refl _) _).alloc (by simp) _).alloc (by simp; omega) _
  have hsz : (((w.alloc (.cells #[.int .i64 t.op, .slice kA kn kc, .int .i32 t.rune, .slice sA sn sc, .int .i64 t.at_, .int .i64 t.cap, .string t.name, .int .i64 t.mn, .int .i64 t.mx, .bool t.lzy] 27)).alloc (.cells #[.bool false] 4)).alloc (.cells #[.int .i64 t.op, .slice kA kn kc, .int .i32 t.rune, .slice sA sn sc, .int .i64 t.at_, .int .i64 t.cap, .string t.name, .int .i64 t.mn, .int .i64 t.mx, .bool t.lzy] 27)).heap.size = w.heap.size + 3 := by simp
  obtain ⟨W0, hW0⟩ : ∃ W0, (((w.alloc (.cells #[.int .i64 t.op, .slice kA kn kc, .int .i32 t.rune, .slice sA sn sc, .int .i64 t.at_, .int .i64 t.cap, .string t.name, .int .i64 t.mn, .int .i64 t.mx, .bool t.lzy] 27)).alloc (.cells #[.bool false] 4)).alloc (.cells #[.int .i64 t.op, .slice kA kn kc, .int .i32 t.rune, .slice sA sn sc, .int .i64 t.at_, .int .i64 t.cap, .string t.name, .int .i64 t.mn, .int .i64 t.mx, .bool t.lzy] 27)) = W0 := ⟨_, rfl⟩
  rw [hW0] at bR bA hB0 hsz ⊢
  clear hW0
  refine wpIn_rangeFunc_ownH (α := TN w) rfl (by omega) (gf := 80) (lb := #[.pointer (some ⟨w.heap.size + 1 + 1, 0, none⟩)]) rfl trivial (enters_of Try.func80 (by kernel_rfl) rfl)
    (all_stops Fence.wide rfl _ trivial trivial rfl W0.heap.size (fun _ => False) (fun _ h => h.elim) w (by omega) (w.heap.size + 1 + 1) hT hp W0 hB0 (Nat.le_refl _) bA) (fun h k => Keep.trans h k) (Keep.obj _ (by omega)) (Below.refl _ _) (fun _ => rfl)
    (fun pre W => ((∀ x ∈ pre, OkS x.1.1) ∧ Blk W (w.heap.size + 1) 4 #[.bool false]) ∧ Below w.heap.size w W)
    (fun c pre W => ((c = .ret ∧ ∃ x ∈ pre, ¬ OkS x.1.1) ∧ Blk W (w.heap.size + 1) 4 #[.bool false]) ∧ Below w.heap.size w W)
    (OwnFrom.and (OwnFrom.and (ownFrom_pure _ _) (ownFrom_blk _ _ _ _)) (ownFrom_below (Nat.le_refl _) (by omega)))
    (fun c => OwnFrom.and (OwnFrom.and (ownFrom_pure _ _) (ownFrom_blk _ _ _ _)) (ownFrom_below (Nat.le_refl _) (by omega)))
    ⟨⟨by simp, bR⟩, hB0⟩
    (fun x a' W => ∃ Bx, w.heap.size + 1 < Bx ∧ TBox W Bx x.1.1 x.1.2 ∧ a' = { tmps := #[.agg #[.int .i64 t.op, .slice kA kn kc, .int .i32 t.rune, .slice sA sn sc, .int .i64 t.at_, .int .i64 t.cap, .string t.name, .int .i64 t.mn, .int .i64 t.mx, .bool t.lzy], .pointer (some ⟨w.heap.size, 0, none⟩), .pointer (some ⟨w.heap.size + 1, 0, none⟩), .pointer (some ⟨Bx, 0, none⟩), .agg #[.int .i64 t.op, .slice kA kn kc, .int .i32 t.rune, .slice sA sn sc, .int .i64 t.at_, .int .i64 t.cap, .string t.name, .int .i64 t.mn, .int .i64 t.mx, .bool t.lzy], .func (.func 80) #[] #[.pointer (some ⟨w.heap.size + 1 + 1, 0, none⟩)], .agg #[.int .i64 x.1.1.op, .slice x.1.2.kA x.1.2.kn x.1.2.kc, .int .i32 x.1.1.rune, .slice x.1.2.sA x.1.2.sn x.1.2.sc, .int .i64 x.1.1.at_, .int .i64 x.1.1.cap, .string x.1.1.name, .int .i64 x.1.1.mn, .int .i64 x.1.1.mx, .bool x.1.1.lzy], undef, undef, undef, undef, undef, undef, undef, undef, undef, undef, undef, undef, undef], defers := [] })
    (fun x a' _ X Y row hs hg hr => by obtain ⟨Bx, e1, e2, e3⟩ := hs; exact ⟨Bx, e1, ownFrom_blk (β := Unit) _ Bx _ _ () X Y row e2 hg hr, e3⟩)
    ?assign ?body ?done ?stop
  case assign =>
    rintro l pre x W K ⟨⟨hp1, bR1⟩, hB1⟩ hK
    gi_wp2
    exact hK _ _ ((KeepsOthers.alloc _ _).from _) (Keep.alloc _ hB1.size _) ⟨⟨hp1, bR1.alloc _⟩, hB1.alloc hB1.size _⟩ ⟨W.heap.size, Blk.lt bR1, TBox.newA W _ _, rfl⟩
  case body =>
    rintro l pre ⟨⟨p, x⟩, hx, hxp⟩ a' W hl ⟨r, hr⟩ ⟨⟨hpre, bR1⟩, hB1⟩ ⟨Bx, hBx, bX, rfl⟩ hlt
    dsimp only at hx hxp bX ⊢
    have h10 := bX.ten
    have k0 := h10.c0
    have k1 := h10.c1
    have k2 := h10.c2
    have k3 := h10.c3
    have k4 := h10.c4
    have k5 := h10.c5
    have k6 := h10.c6
    have k7 := h10.c7
    have k8 := h10.c8
    have k9 := h10.c9
    have hcall := plain_any (hx.on hB1) (hx.setLenX hxp)
    have HPRE := Lib.hid hpre
    have HB1 := Lib.hid hB1
    have HR1 := Lib.hid bR1
    have HX1 := Lib.hid bX
    clear h10 hpre hB1 bR1 bX hlt hr
    gi_wp2
    refine ⟨trivial, (CallsIn.inRound l (callsIn_wide.2 hcall)).mono ?_⟩
    rintro e V ⟨b, rfl, hb, hbV⟩
    have HV := Lib.hid hbV
    have bR2 := HR1.out.below hbV HR1.out.lt
    have bX2 := HX1.out.below hbV
    have HR2 := Lib.hid bR2
    have HBV := Lib.hid (HB1.out.trans (hbV.mono HB1.out.size))
    have cR := bR2.cell 0
    have fR := bR2.frozen 0
    have j0 := bX2.ten.c0
    have j5 := bX2.ten.c5
    simp only [List.getElem?_toArray, List.getElem?_cons_zero] at cR
    have hgo : OkS p → KeepsFrom W0.heap.size W V ∧ Keep (fun _ => False) w.heap.size W V ∧ ((∀ z ∈ pre ++ [⟨⟨p, x⟩, hx, hxp⟩], OkS z.1.1) ∧ Blk V (w.heap.size + 1) 4 #[.bool false]) ∧ Below w.heap.size w V := fun h =>
      ⟨keepsFrom_below HV.out, Keep.of_below _ HB1.out.size HV.out, ⟨fun z hz => (List.mem_append.1 hz).elim (HPRE.out z) (fun e => by rw [List.mem_singleton] at e; subst e; exact h), HR2.out⟩, HBV.out⟩
    have hno : ¬ OkS p → KeepsFrom W0.heap.size W (V.setCell ⟨w.heap.size + 1, 0, none⟩ (.bool false)) ∧ (∃ z ∈ pre ++ [⟨⟨p, x⟩, hx, hxp⟩], ¬ OkS z.1.1) ∧ Blk (V.setCell ⟨w.heap.size + 1, 0, none⟩ (.bool false)) (w.heap.size + 1) 4 #[.bool false] ∧ Below w.heap.size w (V.setCell ⟨w.heap.size + 1, 0, none⟩ (.bool false)) := fun h =>
      ⟨(keepsFrom_below HV.out).trans ((KeepsOthers.setCell _ _ _).from _), ⟨_, List.mem_append.2 (.inr (List.mem_singleton.2 rfl)), h⟩, HR2.out.set 0 (.bool false), HBV.out.setCell (p := ⟨w.heap.size + 1, 0, none⟩) (by simp) _⟩
    have HGO := Lib.hid hgo
    have HNO := Lib.hid hno
    clear hcall k0 k1 k2 k3 k4 k5 k6 k7 k8 k9 hbV bR2 bX2 hgo hno
    cases b with
    | false =>
      have hn : ¬ OkS p := fun h => by have := hb.2 h.1; cases this
      have HN := Lib.hid hn
      clear hb hn
      gi_wp2
      exact ⟨(HNO.out HN.out).1, ⟨⟨rfl, (HNO.out HN.out).2.1⟩, (HNO.out HN.out).2.2.1⟩, (HNO.out HN.out).2.2.2⟩
    | true =>
      have hok := hb.1 rfl
      by_cases h6 : p.op = 6
      · have t0 : (p.op == 6) = true := beq_iff_eq.2 h6
        by_cases h1 : p.cap < 1
        · have t1 : decide (p.cap < 1) = true := decide_eq_true h1
          have hn : ¬ OkS p := fun h => by have := h.2 h6; omega
          have HN := Lib.hid hn
          clear hb hn hok h6 h1
          gi_wp2
          exact ⟨(HNO.out HN.out).1, ⟨⟨rfl, (HNO.out HN.out).2.1⟩, (HNO.out HN.out).2.2.1⟩, (HNO.out HN.out).2.2.2⟩
        · have t1 : decide (p.cap < 1) = false := decide_eq_false h1
          have hn : OkS p := ⟨hok, fun _ => by omega⟩
          have HN := Lib.hid hn
          clear hb hn hok h6 h1
          gi_wp2
          exact HGO.out HN.out
      · have t0 : (p.op == 6) = false := beq_eq_false_iff_ne.2 h6
        have hn : OkS p := ⟨hok, fun h => absurd h h6⟩
        have HN := Lib.hid hn
        clear hb hn hok h6
        gi_wp2
        exact HGO.out HN.out
  case done =>
    rintro D ys W hD hys ⟨⟨hall, bR1⟩, hB1⟩ hK
    have cR := bR1.cell 0
    have fR := bR1.frozen 0
    simp only [List.getElem?_toArray, List.getElem?_cons_zero] at cR
    have hok : ShapedP t := fun p hp' => by
      rw [← hys] at hp'
      obtain ⟨z, hz, rfl⟩ := List.mem_map.1 hp'
      exact hall z hz
    have HOK := Lib.hid hok
    clear hall hok hys
    gi_wp2
    have hK' := (KeepsOthers.setCell W ⟨w.heap.size + 1, 0, none⟩ (.bool true)).same D _ hK rfl
    refine ⟨by simp, .inl ⟨_, _, rfl, run_takeDeferred hK', ?_⟩⟩
    have hc5 := cell_kept ((bR1.set 0 (.bool true)).cell 0) (grownBy_putObj' _ D (.deferred none)) (fun r e => by cases e; exact ⟨_, hK', rfl⟩)
    refine ⟨.bool true, ?_, YesB.yes HOK.out ((hB1.setCell (p := ⟨w.heap.size + 1, 0, none⟩) (by simp) _).trans (belowK_b (w := w) (Nat.le_refl _) _ D _ _ (by omega) hK' rfl rfl))⟩
    simp [results, Try.f25, go_sem, hc5]
  case stop =>
    rintro D c pre W hD hpre ⟨⟨⟨rfl, z, hz, hnz⟩, bR1⟩, hB1⟩ hK
    have hno : ¬ ShapedP t := fun h => hnz (h z.1.1 (hpre.subset (List.mem_map.2 ⟨z, hz, rfl⟩)))
    have HNO := Lib.hid hno
    clear hno hnz hz hpre
    gi_wp2
    refine ⟨by simp, .inl ⟨_, _, rfl, run_takeDeferred hK, ?_⟩⟩
    have hc5 := cell_kept (bR1.cell 0) (grownBy_putObj' _ D (.deferred none)) (fun r e => by cases e; exact ⟨_, hK, rfl⟩)
    refine ⟨.bool false, ?_, YesB.no HNO.out (hB1.trans (belowK_b (w := w) (Nat.le_refl _) W D _ _ (by omega) hK rfl rfl))⟩
    simp [results, Try.f25, go_sem, hc5]
end Go.Proofs.Ytbhcgjahlfpjoaa
