/- Is it a tree: trees.Right: the walk. -/
import Derived.Test.YtbhcgjahlfpjoaaQ10
namespace Go.Proofs.Ytbhcgjahlfpjoaa
open Go.RowKit Go.Shelf

attribute [local go_sem] Oper.semAt_some

theorem ownFrom_blkF {β : Type} (B g : Nat) (t : TypeId) (f : β → Array Value) : OwnFrom B (fun (s : β) W => Blk W g t (f s)) := fun _ W W' row hs hg hr => hs.grown hg fun e => by
  obtain ⟨_, o, ho, hc⟩ := hr g e
  rw [show W.heap[g]? = _ from hs] at ho
  cases ho
  cases hc
theorem ownFrom_nm {β : Type} (B b : Nat) (hb : b < B) (q : β → Nat) (f : β → List ByteArray) : OwnFrom B (fun (s : β) W => ∃ k, k ≤ q s ∧ NmMap W b k (f s)) := fun _ W W' row hs hg hr => by
  obtain ⟨k, hk, hm⟩ := hs
  exact ⟨k, hk, World.ownsMap.kept hm hg fun e => by have := (hr b e.symm).1; omega⟩
theorem NmMap.on {W V : World} {b n : Nat} {l : List ByteArray} (h : NmMap W b n l) (hb : Below W.heap.size W V) : NmMap V b n l :=
  World.ownsMap.kept h (show W.grownBy V none from ⟨hb.os, hb.tape, hb.output, hb.size, fun k hk _ => hb.block k hk⟩) (by simp)
theorem NmMap.set {W : World} {b n g : Nat} {l : List ByteArray} (h : NmMap W b n l) (hg : b ≠ g) (u : Value) : NmMap (W.setCell ⟨g, 0, none⟩ u) b n l :=
  World.ownsMap.kept h (grownBy_setCell' W g u) (fun e => hg (by injection e))
theorem Keep.set {S : Nat → Prop} {m0 : Nat} {A : World} {p : Addr} (hS : S p.block) (h0 : m0 ≤ p.block) (u : Value) : Keep S m0 A (A.setCell p u) :=
  ⟨(Below.refl _ _).setCell h0 u, by simp, fun k cs a hn => a.far (by rintro rfl; exact hn hS) u⟩
theorem Keep.grown {S : Nat → Prop} {m0 b : Nat} {A B : World} (hg : A.grownBy B (some b)) (hS : S b) (h0 : m0 ≤ b) (h1 : m0 ≤ A.heap.size) : Keep S m0 A B :=
  ⟨⟨hg.os, hg.tape, hg.output, hg.size, fun k hk => hg.block k (by omega) (by rintro ⟨⟩; omega)⟩, hg.size, fun k cs a hn => a.grown hg (by rintro ⟨⟩; exact hn hS)⟩
theorem name_empty {s : ByteArray} : s.toList.isEmpty = true ↔ s = ⟨#[]⟩ := by
  rw [ByteArray.toList_eq]
  cases s with | mk d => simp
theorem TBox.far {t : Tr} {a : TA} {W : World} {g : Nat} (h : TBox W g t a) {p : Addr} (hp : g ≠ p.block) (u : Value) : TBox (W.setCell p u) g t a := Blk.far h hp u
theorem Tr.allL_len : ∀ l : List Tr, (∀ k ∈ l, k.all.length ≤ k.parts) → (Tr.allL l).length ≤ Tr.partsL l
  | [], _ => by simp [Tr.allL]
  | k :: l, h => by
    have h1 := h k (List.mem_cons_self ..)
    have h2 := Tr.allL_len l fun k hk => h k (List.mem_cons_of_mem _ hk)
    rw [Tr.allL, Tr.partsL, List.length_append]
    omega
theorem Tr.all_len (t : Tr) : t.all.length ≤ t.parts := Tr.ind (P := fun t => t.all.length ≤ t.parts) (fun t ih => by
  have := Tr.allL_len t.kids ih
  rw [Tr.all_eq, Tr.parts_eq, List.length_cons]
  omega) t

set_option maxRecDepth 100000 in
set_option maxHeartbeats 8000000 in
theorem tright_any {w : World} {t : Tr} {kA : Option Addr} {kn kc : Nat} {sA : Option Addr} {sn sc : Nat} (hT : TIn w t ⟨kA, kn, kc, sA, sn, sc⟩) (hp : t.parts ≤ 20000) : Calls Try.prog 19 #[.agg #[.int .i64 t.op, .slice kA kn kc, .int .i32 t.rune, .slice sA sn sc, .int .i64 t.at_, .int .i64 t.cap, .string t.name, .int .i64 t.mn, .int .i64 t.mx, .bool t.lzy]] w (YesB (RightP t) w) := by
  have hb : Below w.heap.size w (w.alloc (.cells #[.int .i64 t.op, .slice kA kn kc, .int .i32 t.rune, .slice sA sn sc, .int .i64 t.at_, .int .i64 t.cap, .string t.name, .int .i64 t.mn, .int .i64 t.mx, .bool t.lzy] 27)) := (Below.refl _ _).alloc (Nat.le_refl _) _
  have hB := TBox.newV w t kA kn kc sA sn sc
  have h10 := hB.ten
  have k0 := h10.c0
  have k1 := h10.c1
  have k2 := h10.c2
  have k3 := h10.c3
  have k4 := h10.c4
  have k5 := h10.c5
  have k6 := h10.c6
  have k7 := h10.c7
  have k8 := h10.c8
  have k9 := h10.c9
  dsimp only at k1 k3
  have HB := Lib.hid hb
  have HBX := Lib.hid hB
  have HT := Lib.hid (hT.on hb)
  have HTT := Lib.hid hT
  have hd1 := t.depth_le_parts
  have hd2 : (t.depth : Int) ≤ 20000 := by omega
  have hcd := pdepth_any t HT.out hp
  clear hb hB hT h10 hd1
  by_cases hdp : t.depth ≤ 50
  case neg =>
    have d0 : decide ((50 : Int) < (t.depth : Int)) = true := decide_eq_true (by omega)
    have d0b : decide (50 < t.depth) = true := decide_eq_true (by omega)
    have hno : ¬ RightP t := fun h => hdp h.1
    have HNO := Lib.hid hno
    clear hno hdp
    refine (callsIn_wide (n := 8)).1 ?_
    refine callsIn_of_wp_marks Try.func19 rfl trivial ?_ rfl
    simp only [Try.ntmps19, List.size_toArray, List.length_cons, List.length_nil, Nat.reduceAdd, Nat.reduceSub, Array.replicate_succ, Array.replicate_zero, List.push_toArray, List.append_toArray, List.nil_append, List.cons_append]
    refine wpIn_wide.2 ?_
    go_wp2_with fail
    refine wp_scope_straight ?_
    go_wp2_with (go_at_call 53; refine hcd.mono ?_; clear hcd; rintro e w1 ⟨rfl, hb1⟩; have HT1 := Lib.hid (HT.out.on hb1); have hbx := HBX.out.below hb1; have HBX1 := Lib.hid hbx; have HB1 := Lib.hid (HB.out.trans (hb1.mono HB.out.size)); clear k0 k1 k2 k3 k4 k5 k6 k7 k8 k9 HT HB HBX hb1; have h10 := hbx.ten; have k0 := h10.c0; have k1 := h10.c1; have k2 := h10.c2; have k3 := h10.c3; have k4 := h10.c4; have k5 := h10.c5; have k6 := h10.c6; have k7 := h10.c7; have k8 := h10.c8; have k9 := h10.c9; dsimp only at k1 k3; clear h10 hbx)
    exact ⟨.bool false, by simp [results, Try.f19, go_sem], .no HNO.out HB1.out⟩
  have d0 : decide ((50 : Int) < (t.depth : Int)) = false := decide_eq_false (by omega)
  have d0b : decide (50 < t.depth) = false := decide_eq_false (by omega)
  have HDP := Lib.hid hdp
  clear hdp
  by_cases hwt : t.weight ≤ 4000
  case neg =>
    have e0 : decide ((4000 : Int) < t.weight) = true := decide_eq_true (by omega)
    have hno : ¬ RightP t := fun h => hwt h.2.1
    have HNO := Lib.hid hno
    clear hno hwt
    refine (callsIn_wide (n := 8)).1 ?_
    refine callsIn_of_wp_marks Try.func19 rfl trivial ?_ rfl
    simp only [Try.ntmps19, List.size_toArray, List.length_cons, List.length_nil, Nat.reduceAdd, Nat.reduceSub, Array.replicate_succ, Array.replicate_zero, List.push_toArray, List.append_toArray, List.nil_append, List.cons_append]
    refine wpIn_wide.2 ?_
    go_wp2_with fail
    refine wp_scope_straight ?_
    go_wp2_with (first | (go_at_call 53; refine hcd.mono ?_; clear hcd; rintro e w1 ⟨rfl, hb1⟩; have HT1 := Lib.hid (HT.out.on hb1); have hbx := HBX.out.below hb1; have HBX1 := Lib.hid hbx; have HB1 := Lib.hid (HB.out.trans (hb1.mono HB.out.size)); clear k0 k1 k2 k3 k4 k5 k6 k7 k8 k9 HT HB HBX hb1; have h10 := hbx.ten; have k0 := h10.c0; have k1 := h10.c1; have k2 := h10.c2; have k3 := h10.c3; have k4 := h10.c4; have k5 := h10.c5; have k6 := h10.c6; have k7 := h10.c7; have k8 := h10.c8; have k9 := h10.c9; dsimp only at k1 k3; clear h10 hbx) | (go_at_call 54; refine (pweight_any t HT1.out hp).mono ?_; rintro e V ⟨rfl, hb1⟩; have HT2 := Lib.hid (HT1.out.on hb1); have hbx := HBX1.out.below hb1; have HBX2 := Lib.hid hbx; have HB2 := Lib.hid (HB1.out.trans (hb1.mono HB1.out.size)); clear k0 k1 k2 k3 k4 k5 k6 k7 k8 k9 HT1 HB1 HBX1 hb1; have h10 := hbx.ten; have k0 := h10.c0; have k1 := h10.c1; have k2 := h10.c2; have k3 := h10.c3; have k4 := h10.c4; have k5 := h10.c5; have k6 := h10.c6; have k7 := h10.c7; have k8 := h10.c8; have k9 := h10.c9; dsimp only at k1 k3; clear h10 hbx))
    exact ⟨.bool false, by simp [results, Try.f19, go_sem], .no HNO.out HB2.out⟩
  have e0 : decide ((4000 : Int) < t.weight) = false := decide_eq_false (by omega)
  have HWT := Lib.hid hwt
  clear hwt
  refine (callsIn_wide (n := 8)).1 ?_
  refine callsIn_of_wp_marks Try.func19 rfl trivial ?_ rfl
  simp only [Try.ntmps19, List.size_toArray, List.length_cons, List.length_nil, Nat.reduceAdd, Nat.reduceSub, Array.replicate_succ, Array.replicate_zero, List.push_toArray, List.append_toArray, List.nil_append, List.cons_append]
  refine wpIn_wide.2 ?_
  go_wp2_with fail
  refine wp_scope_straight ?_
  have hmm := @run_makeMap Try.prog
  go_wp2_with (first | (go_at_call 53; refine hcd.mono ?_; clear hcd; rintro e w1 ⟨rfl, hb1⟩; have HT1 := Lib.hid (HT.out.on hb1); have hbx := HBX.out.below hb1; have HBX1 := Lib.hid hbx; have HB1 := Lib.hid (HB.out.trans (hb1.mono HB.out.size)); clear k0 k1 k2 k3 k4 k5 k6 k7 k8 k9 HT HB HBX hb1; have h10 := hbx.ten; have k0 := h10.c0; have k1 := h10.c1; have k2 := h10.c2; have k3 := h10.c3; have k4 := h10.c4; have k5 := h10.c5; have k6 := h10.c6; have k7 := h10.c7; have k8 := h10.c8; have k9 := h10.c9; dsimp only at k1 k3; clear h10 hbx) | (go_at_call 54; refine (pweight_any t HT1.out hp).mono ?_; rintro e V ⟨rfl, hb1⟩; have HT2 := Lib.hid (HT1.out.on hb1); have hbx := HBX1.out.below hb1; have HBX2 := Lib.hid hbx; have HB2 := Lib.hid (HB1.out.trans (hb1.mono HB1.out.size)); clear k0 k1 k2 k3 k4 k5 k6 k7 k8 k9 HT1 HB1 HBX1 hb1; have h10 := hbx.ten; have k0 := h10.c0; have k1 := h10.c1; have k2 := h10.c2; have k3 := h10.c3; have k4 := h10.c4; have k5 := h10.c5; have k6 := h10.c6; have k7 := h10.c7; have k8 := h10.c8; have k9 := h10.c9; dsimp only at k1 k3; clear h10 hbx) | (go_at_call 56; refine (callsIn_wide.1 (all_in Fence.wide 8 trivial rfl t kA kn kc sA sn sc _)).mono ?_; rintro e w' ⟨rfl, rfl⟩))
  have bR := (((Blk.new V 4 #[.bool true]).alloc (.cells #[.int .i64 0] 3)).alloc (.map #[] 0)).alloc (.cells #[.map (some (V.heap.size + 1 + 1))] 64)
  have bN := ((Blk.new (V.alloc (.cells #[.bool true] 4)) 3 #[.int .i64 0]).alloc (.map #[] 0)).alloc (.cells #[.map (some (V.heap.size + 1 + 1))] 64)
  have mM := (NmMap.made ((V.alloc (.cells #[.bool true] 4)).alloc (.cells #[.int .i64 0] 3))).on (show Below _ _ (_) from (Below.refl _ _).alloc (Nat.le_refl _) (.cells #[.map (some (V.heap.size + 1 + 1))] 64))
  have bB := Blk.new (((V.alloc (.cells #[.bool true] 4)).alloc (.cells #[.int .i64 0] 3)).alloc (.map #[] 0)) 64 #[.map (some (V.heap.size + 1 + 1))]
  have hVW : Below V.heap.size V ((((V.alloc (.cells #[.bool true] 4)).alloc (.cells #[.int .i64 0] 3)).alloc (.map #[] 0)).alloc (.cells #[.map (some (V.heap.size + 1 + 1))] 64)) := ((((Below.refl _ _).alloc (Nat.le_refl _) _).alloc (by simp) _).alloc (by simp; omega) _).alloc (by simp; omega) _
  have hsz : ((((V.alloc (.cells #[.bool true] 4)).alloc (.cells #[.int .i64 0] 3)).alloc (.map #[] 0)).alloc (.cells #[.map (some (V.heap.size + 1 + 1))] 64)).heap.size = V.heap.size + 1 + 1 + 1 + 1 := by simp
  have hbx := HBX2.out.below hVW
  have hwV := Blk.lt HBX2.out
  have hB4 := HB2.out.trans (hVW.mono HB2.out.size)
  simp only [World.size_alloc] at bN mM bB
  clear k0 k1 k2 k3 k4 k5 k6 k7 k8 k9 HBX2 HB2 HT2 hVW hmm
  refine wp_label ?_
  generalize ((((V.alloc (.cells #[.bool true] 4)).alloc (.cells #[.int .i64 0] 3)).alloc (.map #[] 0)).alloc (.cells #[.map (some (V.heap.size + 1 + 1))] 64)) = W4 at bR bN mM bB hsz hbx hB4 ⊢
  generalize V.heap.size = r at bR bN mM bB hsz hwV ⊢
  have h10 := hbx.ten
  have k0 := h10.c0
  have k1 := h10.c1
  have k2 := h10.c2
  have k3 := h10.c3
  have k4 := h10.c4
  have k5 := h10.c5
  have k6 := h10.c6
  have k7 := h10.c7
  have k8 := h10.c8
  have k9 := h10.c9
  dsimp only at k1 k3
  have HBX4 := Lib.hid hbx
  have HSZ := Lib.hid hsz
  clear h10 hbx hsz
  go_wp2_with (go_at_call 56; refine (callsIn_wide.1 (all_in Fence.wide 8 trivial rfl t kA kn kc sA sn sc _)).mono ?_; rintro e w' ⟨rfl, rfl⟩)
  clear k0 k1 k2 k3 k4 k5 k6 k7 k8 k9
  have hsz := HSZ.out
  clear HSZ
  have bA := TBox.newV W4 t kA kn kc sA sn sc
  have hB0 : Below w.heap.size w (W4.alloc (.cells #[.int .i64 t.op, .slice kA kn kc, .int .i32 t.rune, .slice sA sn sc, .int .i64 t.at_, .int .i64 t.cap, .string t.name, .int .i64 t.mn, .int .i64 t.mx, .bool t.lzy] 27)) := hB4.alloc hB4.size _
  replace bR := bR.alloc (.cells #[.int .i64 t.op, .slice kA kn kc, .int .i32 t.rune, .slice sA sn sc, .int .i64 t.at_, .int .i64 t.cap, .string t.name, .int .i64 t.mn, .int .i64 t.mx, .bool t.lzy] 27)
  replace bN := bN.alloc (.cells #[.int .i64 t.op, .slice kA kn kc, .int .i32 t.rune, .slice sA sn sc, .int .i64 t.at_, .int .i64 t.cap, .string t.name, .int .i64 t.mn, .int .i64 t.mx, .bool t.lzy] 27)
  replace bB := bB.alloc (.cells #[.int .i64 t.op, .slice kA kn kc, .int .i32 t.rune, .slice sA sn sc, .int .i64 t.at_, .int .i64 t.cap, .string t.name, .int .i64 t.mn, .int .i64 t.mx, .bool t.lzy] 27)
  replace mM := mM.on (show Below W4.heap.size W4 (W4.alloc (.cells #[.int .i64 t.op, .slice kA kn kc, .int .i32 t.rune, .slice sA sn sc, .int .i64 t.at_, .int .i64 t.cap, .string t.name, .int .i64 t.mn, .int .i64 t.mx, .bool t.lzy] 27)) from (Below.refl _ _).alloc (Nat.le_refl _) _)
  have hsz0 : (W4.alloc (.cells #[.int .i64 t.op, .slice kA kn kc, .int .i32 t.rune, .slice sA sn sc, .int .i64 t.at_, .int .i64 t.cap, .string t.name, .int .i64 t.mn, .int .i64 t.mx, .bool t.lzy] 27)).heap.size = W4.heap.size + 1 := by simp
  obtain ⟨W0, hW0⟩ : ∃ W0, W4.alloc (.cells #[.int .i64 t.op, .slice kA kn kc, .int .i32 t.rune, .slice sA sn sc, .int .i64 t.at_, .int .i64 t.cap, .string t.name, .int .i64 t.mn, .int .i64 t.mx, .bool t.lzy] 27) = W0 := ⟨_, rfl⟩
  rw [hW0] at bA hB0 bR bN bB mM hsz0 ⊢
  clear hW0 hB4 HBX4
  have hsz4 : r + 4 ≤ W4.heap.size := by omega
  clear hsz
  refine (wpIn_wide (n := 8)).1 ?_
  refine wpIn_rangeFunc_ownH (α := TN w) (n := 8) rfl (by omega) (gf := 80) (lb := #[.pointer (some ⟨W4.heap.size, 0, none⟩)]) rfl trivial (enters_of Try.func80 (by kernel_rfl) rfl)
    (all_stops Fence.wide rfl _ trivial trivial rfl W0.heap.size (fun k => k = r ∨ k = r + 1 ∨ k = r + 1 + 1) (fun _ h => by omega) w (by omega) W4.heap.size HTT.out hp W0 hB0 (Nat.le_refl _) bA) (fun h k => Keep.trans h k) (Keep.obj _ (by omega)) (Below.refl _ _) (fun _ => rfl)
    (fun pre W => ((((RightL (pre.map TN.tr) ∧ Blk W r 4 #[.bool true]) ∧ Blk W (r + 1) 3 #[.int .i64 ((grp (pre.map TN.tr)).length : Int)]) ∧ Blk W (r + 1 + 1 + 1) 64 #[.map (some (r + 1 + 1))]) ∧ (∃ k, k ≤ pre.length ∧ NmMap W (r + 1 + 1) k ((grp (pre.map TN.tr)).map Tr.name))) ∧ Below w.heap.size w W)
    (fun c pre W => ((c = .exit 0 ∧ ¬ RightL (pre.map TN.tr)) ∧ Blk W r 4 #[.bool false]) ∧ Below w.heap.size w W)
    (OwnFrom.and (OwnFrom.and (OwnFrom.and (OwnFrom.and (OwnFrom.and (ownFrom_pure _ _) (ownFrom_blk _ _ _ _)) (ownFrom_blkF _ _ _ _)) (ownFrom_blk _ _ _ _)) (ownFrom_nm _ _ (by omega) _ _)) (ownFrom_below (Nat.le_refl _) (by omega)))
    (fun c => OwnFrom.and (OwnFrom.and (ownFrom_pure _ _) (ownFrom_blk _ _ _ _)) (ownFrom_below (Nat.le_refl _) (by omega)))
    ⟨⟨⟨⟨⟨RightL.nil, bR⟩, by simpa [grp] using bN⟩, bB⟩, 0, Nat.le_refl _, by simpa [grp] using mM⟩, hB0⟩
    (fun x a' W => ∃ Bx, r + 1 + 1 + 1 < Bx ∧ TBox W Bx x.1.1 x.1.2 ∧ a' = { tmps := #[.agg #[.int .i64 t.op, .slice kA kn kc, .int .i32 t.rune, .slice sA sn sc, .int .i64 t.at_, .int .i64 t.cap, .string t.name, .int .i64 t.mn, .int .i64 t.mx, .bool t.lzy], .pointer (some ⟨w.heap.size, 0, none⟩), .bool false, .pointer (some ⟨r, 0, none⟩), .pointer (some ⟨r + 1, 0, none⟩), .pointer (some ⟨r + 1 + 1 + 1, 0, none⟩), .pointer (some ⟨Bx, 0, none⟩), .agg #[.int .i64 t.op, .slice kA kn kc, .int .i32 t.rune, .slice sA sn sc, .int .i64 t.at_, .int .i64 t.cap, .string t.name, .int .i64 t.mn, .int .i64 t.mx, .bool t.lzy], .int .i64 (t.depth : Int), .bool false, .bool false, .agg #[.int .i64 t.op, .slice kA kn kc, .int .i32 t.rune, .slice sA sn sc, .int .i64 t.at_, .int .i64 t.cap, .string t.name, .int .i64 t.mn, .int .i64 t.mx, .bool t.lzy], .int .i64 t.weight, .bool false, .bool false, .map (some (r + 1 + 1)), .agg #[.int .i64 t.op, .slice kA kn kc, .int .i32 t.rune, .slice sA sn sc, .int .i64 t.at_, .int .i64 t.cap, .string t.name, .int .i64 t.mn, .int .i64 t.mx, .bool t.lzy], .func (.func 80) #[] #[.pointer (some ⟨W4.heap.size, 0, none⟩)], .agg #[.int .i64 x.1.1.op, .slice x.1.2.kA x.1.2.kn x.1.2.kc, .int .i32 x.1.1.rune, .slice x.1.2.sA x.1.2.sn x.1.2.sc, .int .i64 x.1.1.at_, .int .i64 x.1.1.cap, .string x.1.1.name, .int .i64 x.1.1.mn, .int .i64 x.1.1.mx, .bool x.1.1.lzy], undef, undef, undef, undef, undef, undef, undef, undef, undef, undef, undef, undef, undef, undef, undef, undef, undef, undef, undef, undef, undef, undef, undef, undef, undef, undef, undef, undef], defers := [] })
    (fun x a' _ X Y row hs hg hr => by obtain ⟨Bx, e1, e2, e3⟩ := hs; exact ⟨Bx, e1, ownFrom_blk (β := Unit) _ Bx _ _ () X Y row e2 hg hr, e3⟩)
    ?assign ?body ?done ?stop
  case assign =>
    rintro l pre x W K ⟨⟨⟨⟨⟨hp1, bR1⟩, bN1⟩, bB1⟩, k, hk, mM1⟩, hB1⟩ hK
    gi_wp2
    exact hK _ _ ((KeepsOthers.alloc _ _).from _) (Keep.alloc _ hB1.size _) ⟨⟨⟨⟨⟨hp1, bR1.alloc _⟩, bN1.alloc _⟩, bB1.alloc _⟩, k, hk, mM1.on ((Below.refl _ _).alloc (Nat.le_refl _) _)⟩, hB1.alloc hB1.size _⟩ ⟨W.heap.size, Blk.lt bB1, TBox.newA W _ _, rfl⟩
  case body =>
    rintro l pre ⟨⟨p, x⟩, hx, hxp⟩ a' W hl ⟨rs, hr⟩ ⟨⟨⟨⟨⟨hpre, bR1⟩, bN1⟩, bB1⟩, k, hk, mM1⟩, hB1⟩ ⟨Bx, hBx, bX, rfl⟩ hlt
    dsimp only at hx hxp bX ⊢
    have h10 := bX.ten
    have k0 := h10.c0
    have k1 := h10.c1
    have k2 := h10.c2
    have k3 := h10.c3
    have k4 := h10.c4
    have k5 := h10.c5
    have k6 := h10.c6
    have k7 := h10.c7
    have k8 := h10.c8
    have k9 := h10.c9
    have hcall := plain_any (hx.on hB1) (hx.setLenX hxp)
    have hkl : k < maxLen := by
      have h1 := t.all_len
      unfold maxLen
      omega
    have hLL : (grp (pre.map TN.tr)).length ≤ 20000 := by
      have h1 := t.all_len
      have h2 := grp_len (pre.map TN.tr)
      rw [List.length_map] at h2
      omega
    have HKL := Lib.hid hkl
    clear hkl
    have HRL := Lib.hid (RightL.snoc (l := pre.map TN.tr) (x := p))
    obtain ⟨L, hL⟩ : ∃ L, (grp (pre.map TN.tr)).length = L := ⟨_, rfl⟩
    obtain ⟨LS, hLS⟩ : ∃ LS, (grp (pre.map TN.tr)).map Tr.name = LS := ⟨_, rfl⟩
    have HG1 := Lib.hid (grp_app (pre.map TN.tr) [p])
    rw [hL] at bN1 hLL
    rw [hLS] at mM1
    have HL := Lib.hid hL
    have HLS := Lib.hid hLS
    have HPRE := Lib.hid hpre
    have HB1 := Lib.hid hB1
    have HR1 := Lib.hid bR1
    have HN1 := Lib.hid bN1
    have HM1 := Lib.hid mM1
    have HBB1 := Lib.hid bB1
    have HX1 := Lib.hid bX
    have HNS := Lib.hid hx.name
    clear h10 hpre hB1 bR1 bN1 mM1 bB1 bX hlt hr hL hLS
    gi_wp2
    refine ⟨trivial, (CallsIn.inRound l (callsIn_wide.2 hcall)).mono ?_⟩
    rintro e V ⟨b, rfl, hb, hbV⟩
    clear hcall k0 k1 k2 k3 k4 k5 k6 k7 k8 k9
    have hpt : (pre ++ [(⟨⟨p, x⟩, hx, hxp⟩ : TN w)]).map TN.tr = pre.map TN.tr ++ [p] := by simp [TN.tr]
    have HPT := Lib.hid hpt
    clear hpt
    obtain ⟨V1, hV1⟩ : ∃ V1, V.setCell ⟨r, 0, none⟩ (.bool b) = V1 := ⟨_, rfl⟩
    have cR0 := (HR1.out.below hbV HR1.out.lt).cell 0
    simp only [List.getElem?_toArray, List.getElem?_cons_zero] at cR0
    have bR2 := (HR1.out.below hbV HR1.out.lt).set 0 (.bool b)
    have bN2 := (HN1.out.below hbV HN1.out.lt).far (p := ⟨r, 0, none⟩) (by simp) (.bool b)
    have bB2 := (HBB1.out.below hbV HBB1.out.lt).far (p := ⟨r, 0, none⟩) (by show r + 1 + 1 + 1 ≠ r; omega) (.bool b)
    have bX2 := (HX1.out.below hbV).far (p := ⟨r, 0, none⟩) (by show Bx ≠ r; omega) (.bool b)
    have bM2 := (HM1.out.on hbV).set (g := r) (by omega) (.bool b)
    have hW2 := (HB1.out.trans (hbV.mono HB1.out.size)).setCell (p := ⟨r, 0, none⟩) (by show w.heap.size ≤ r; omega) (.bool b)
    have hF2 := (keepsFrom_below (B := W0.heap.size) hbV).trans ((KeepsOthers.setCell V ⟨r, 0, none⟩ (.bool b)).from _)
    have hK2 := (Keep.of_below (fun k => k = r ∨ k = r + 1 ∨ k = r + 1 + 1) HB1.out.size hbV).trans (Keep.set (A := V) (p := ⟨r, 0, none⟩) (.inl rfl) (by show w.heap.size ≤ r; omega) (.bool b))
    have fR2 := (HR1.out.below hbV HR1.out.lt).frozen 0
    rw [show (#[.bool true] : Array Value).setIfInBounds 0 (.bool b) = #[.bool b] from rfl] at bR2
    rw [hV1] at bR2 bN2 bB2 bX2 bM2 hW2 hF2 hK2
    have HR2 := Lib.hid bR2
    have HN2 := Lib.hid bN2
    have HBB2 := Lib.hid bB2
    have HX2 := Lib.hid bX2
    have HM2 := Lib.hid bM2
    have HW2 := Lib.hid hW2
    have HF2 := Lib.hid hF2
    have HK2 := Lib.hid hK2
    have cR := bR2.cell 0
    have j0 := bX2.ten.c0
    simp only [List.getElem?_toArray, List.getElem?_cons_zero] at cR
    clear hbV bR2 bN2 bB2 bX2 bM2 hW2 hF2 hK2
    cases b with
    | false =>
      have hn : ¬ RightL ((pre ++ [(⟨⟨p, x⟩, hx, hxp⟩ : TN w)]).map TN.tr) := fun h => by
        rw [HPT.out] at h
        have := hb.2 (HRL.out.1 h).2.1
        cases this
      have HNN := Lib.hid hn
      clear hb hn
      gi_wp2
      exact ⟨HF2.out, ⟨⟨rfl, HNN.out⟩, HR2.out⟩, HW2.out⟩
    | true =>
      have hok := hb.1 rfl
      have HOK := Lib.hid hok
      clear hb hok
      by_cases h6 : p.op = 6
      · have t0 : (p.op == 6) = true := beq_iff_eq.2 h6
        have hgp : grp ((pre ++ [(⟨⟨p, x⟩, hx, hxp⟩ : TN w)]).map TN.tr) = grp (pre.map TN.tr) ++ [p] := by
          rw [HPT.out, HG1.out, grp_one, if_pos h6]
        have HGP := Lib.hid hgp
        have H6 := Lib.hid h6
        clear hgp h6
        have hwr : IntKind.i64.wrap ((L : Int) + 1) = (L : Int) + 1 := IntWalk.i64_in _ (by omega)
        have cN := HN2.out.cell 0
        have fN := HN2.out.frozen 0
        simp only [List.getElem?_toArray, List.getElem?_cons_zero] at cN
        obtain ⟨V2, hV2⟩ : ∃ V2, V1.setCell ⟨r + 1, 0, none⟩ (.int .i64 ((L : Int) + 1)) = V2 := ⟨_, rfl⟩
        have bR3 := HR2.out.far (p := ⟨r + 1, 0, none⟩) (by simp) (.int .i64 ((L : Int) + 1))
        have bN3 := HN2.out.set 0 (.int .i64 ((L : Int) + 1))
        have bB3 := HBB2.out.far (p := ⟨r + 1, 0, none⟩) (by show r + 1 + 1 + 1 ≠ r + 1; omega) (.int .i64 ((L : Int) + 1))
        have bX3 := HX2.out.far (p := ⟨r + 1, 0, none⟩) (by show Bx ≠ r + 1; omega) (.int .i64 ((L : Int) + 1))
        have bM3 := HM2.out.set (g := r + 1) (by omega) (.int .i64 ((L : Int) + 1))
        have hW3 := HW2.out.setCell (p := ⟨r + 1, 0, none⟩) (by show w.heap.size ≤ r + 1; omega) (.int .i64 ((L : Int) + 1))
        have hF3 := HF2.out.trans ((KeepsOthers.setCell V1 ⟨r + 1, 0, none⟩ (.int .i64 ((L : Int) + 1))).from _)
        have hK3 := HK2.out.trans (Keep.set (A := V1) (p := ⟨r + 1, 0, none⟩) (.inr (.inl rfl)) (by show w.heap.size ≤ r + 1; omega) (.int .i64 ((L : Int) + 1)))
        rw [show (#[.int .i64 (L : Int)] : Array Value).setIfInBounds 0 (.int .i64 ((L : Int) + 1)) = #[.int .i64 ((L : Int) + 1)] from rfl] at bN3
        rw [hV2] at bR3 bN3 bB3 bX3 bM3 hW3 hF3 hK3
        have HR3 := Lib.hid bR3
        have HN3 := Lib.hid bN3
        have HBB3 := Lib.hid bB3
        have HX3 := Lib.hid bX3
        have HM3 := Lib.hid bM3
        have HW3 := Lib.hid hW3
        have HF3 := Lib.hid hF3
        have HK3 := Lib.hid hK3
        have cN3 := bN3.cell 0
        have cB3 := bB3.cell 0
        have cR3 := bR3.cell 0
        have fR3 := bR3.frozen 0
        have j5 := bX3.ten.c5
        have j6 := bX3.ten.c6
        simp only [List.getElem?_toArray, List.getElem?_cons_zero] at cN3 cB3 cR3
        clear bR3 bN3 bB3 bX3 bM3 hW3 hF3 hK3
        have hbad : (p.cap = (L : Int) + 1 → p.name ≠ ⟨#[]⟩ ∧ p.name ∈ LS) → KeepsFrom W0.heap.size W (V2.setCell ⟨r, 0, none⟩ (.bool false)) ∧ ((Code.exit 0 = Code.exit 0 ∧ ¬ RightL ((pre ++ [(⟨⟨p, x⟩, hx, hxp⟩ : TN w)]).map TN.tr)) ∧ Blk (V2.setCell ⟨r, 0, none⟩ (.bool false)) r 4 #[.bool false]) ∧ Below w.heap.size w (V2.setCell ⟨r, 0, none⟩ (.bool false)) := fun h =>
          ⟨HF3.out.trans ((KeepsOthers.setCell V2 ⟨r, 0, none⟩ (.bool false)).from _), ⟨⟨rfl, fun hr => by
            rw [HPT.out] at hr
            have h1 := (HRL.out.1 hr).2.2 H6.out
            rw [HL.out, HLS.out] at h1
            exact h1.2 (h h1.1).1 (h h1.1).2⟩, HR3.out.set 0 (.bool false)⟩, HW3.out.setCell (p := ⟨r, 0, none⟩) (by show w.heap.size ≤ r; omega) (.bool false)⟩
        have HBAD := Lib.hid hbad
        obtain ⟨V4, hput, hM4, hg4⟩ := HM3.out.put HKL.out p.name HNS.out
        have hlook := HM3.out.look p.name HNS.out
        have hgood : (p.cap = (L : Int) + 1 ∧ (p.name ≠ ⟨#[]⟩ → p.name ∉ LS)) → KeepsFrom W0.heap.size W V4 ∧ Keep (fun k => k = r ∨ k = r + 1 ∨ k = r + 1 + 1) w.heap.size W V4 ∧ ((((RightL ((pre ++ [(⟨⟨p, x⟩, hx, hxp⟩ : TN w)]).map TN.tr) ∧ Blk V4 r 4 #[.bool true]) ∧ Blk V4 (r + 1) 3 #[.int .i64 ((grp ((pre ++ [(⟨⟨p, x⟩, hx, hxp⟩ : TN w)]).map TN.tr)).length : Int)]) ∧ Blk V4 (r + 1 + 1 + 1) 64 #[.map (some (r + 1 + 1))]) ∧ (∃ k, k ≤ (pre ++ [(⟨⟨p, x⟩, hx, hxp⟩ : TN w)]).length ∧ NmMap V4 (r + 1 + 1) k ((grp ((pre ++ [(⟨⟨p, x⟩, hx, hxp⟩ : TN w)]).map TN.tr)).map Tr.name))) ∧ Below w.heap.size w V4 := fun h => by
          have hWs : w.heap.size ≤ V2.heap.size := HW3.out.size
          have hKg := Keep.grown (S := fun k => k = r ∨ k = r + 1 ∨ k = r + 1 + 1) (m0 := w.heap.size) hg4 (.inr (.inr rfl)) (by omega) hWs
          refine ⟨HF3.out.trans (KeepsFrom.of_grownBy hg4 fun j e => by cases e; omega), HK3.out.trans hKg, ⟨⟨⟨⟨?_, HR3.out.grown hg4 (by intro e; injection e; omega)⟩, ?_⟩, HBB3.out.grown hg4 (by intro e; injection e; omega)⟩, k + 1, by rw [List.length_append]; simp; omega, ?_⟩, HW3.out.trans hKg.1⟩
          · rw [HPT.out]
            refine HRL.out.2 ⟨HPRE.out, HOK.out, fun _ => ?_⟩
            rw [HL.out, HLS.out]
            exact h
          · rw [HGP.out, List.length_append, HL.out]
            exact HN3.out.grown hg4 (by intro e; injection e; omega)
          · rw [HGP.out, List.map_append, HLS.out]
            exact hM4
        have HGOOD := Lib.hid hgood
        clear hbad hgood hM4 hg4
        by_cases hc : p.cap = (L : Int) + 1
        case neg =>
          have t1 : (p.cap != (L : Int) + 1) = true := bne_iff_ne.2 hc
          have hb := HBAD.out fun h => absurd h hc
          have HB := Lib.hid hb
          clear hb hc hput hlook
          gi_wp2
          exact ⟨HB.out.1, ⟨⟨rfl, HB.out.2.1.1.2⟩, HB.out.2.1.2⟩, HB.out.2.2⟩
        have t1 : (p.cap != (L : Int) + 1) = false := by simp [hc]
        by_cases hn : p.name = ⟨#[]⟩
        · have t2 : p.name.toList.isEmpty = true := name_empty.2 hn
          have hb := HGOOD.out ⟨hc, fun h => absurd hn h⟩
          have HB := Lib.hid hb
          clear hb hlook hn hc
          gi_wp2
          exact HB.out
        · have t2 : p.name.toList.isEmpty = false := by
            cases h : p.name.toList.isEmpty with
            | false => rfl
            | true => exact absurd (name_empty.1 h) hn
          by_cases hi : p.name ∈ LS
          · have hb := HBAD.out fun _ => ⟨hn, hi⟩
            have HB := Lib.hid hb
            have t3 : @decide (p.name ∈ LS) (Classical.propDecidable _) = true := @decide_eq_true _ (Classical.propDecidable _) hi
            clear hb hput hn hc hi
            gi_wp2
            exact ⟨HB.out.1, ⟨⟨rfl, HB.out.2.1.1.2⟩, HB.out.2.1.2⟩, HB.out.2.2⟩
          · have hb := HGOOD.out ⟨hc, fun _ => hi⟩
            have HB := Lib.hid hb
            have t3 : @decide (p.name ∈ LS) (Classical.propDecidable _) = false := @decide_eq_false _ (Classical.propDecidable _) hi
            clear hb hn hc hi
            gi_wp2
            exact HB.out
      · have t0 : (p.op == 6) = false := beq_eq_false_iff_ne.2 h6
        have hn : RightL ((pre ++ [(⟨⟨p, x⟩, hx, hxp⟩ : TN w)]).map TN.tr) := by
          rw [HPT.out]
          exact HRL.out.2 ⟨HPRE.out, HOK.out, fun h => absurd h h6⟩
        have hgp : grp ((pre ++ [(⟨⟨p, x⟩, hx, hxp⟩ : TN w)]).map TN.tr) = grp (pre.map TN.tr) := by
          rw [HPT.out, HG1.out, grp_one, if_neg h6, List.append_nil]
        have HNN := Lib.hid hn
        have HGP := Lib.hid hgp
        clear hn hgp h6
        gi_wp2
        exact ⟨HF2.out, HK2.out, ⟨⟨⟨⟨HNN.out, HR2.out⟩, by rw [HGP.out, HL.out]; exact HN2.out⟩, HBB2.out⟩, k, by rw [List.length_append]; omega, by rw [HGP.out, HLS.out]; exact HM2.out⟩, HW2.out⟩
  case done =>
    rename_i K hKK
    rintro D ys W hD hys ⟨⟨⟨⟨⟨hall, bR1⟩, _⟩, _⟩, _⟩, hB1⟩ hK
    have cR := bR1.cell 0
    simp only [List.getElem?_toArray, List.getElem?_cons_zero] at cR
    have hok : RightP t := ⟨HDP.out, HWT.out, by rw [← hys]; exact hall⟩
    have HOK := Lib.hid hok
    have HB1 := Lib.hid hB1
    have HKD := Lib.hid hK
    clear hall bR1 hok hys hB1 hK
    show K _ _
    refine hKK _ _ ?_
    clear hKK
    go_wp2_with fail
    refine ⟨by simp, .inl ⟨_, _, rfl, run_takeDeferred HKD.out, ?_⟩⟩
    refine ⟨.bool true, ?_, YesB.yes HOK.out (HB1.out.trans (belowK_b (w := w) (Nat.le_refl _) W D _ _ (by omega) HKD.out rfl rfl))⟩
    simp [results, Try.f19, go_sem]
  case stop =>
    rename_i K hKK
    rintro D c pre W hD hpre ⟨⟨⟨rfl, hno⟩, bR1⟩, hB1⟩ hK
    have cR := bR1.cell 0
    simp only [List.getElem?_toArray, List.getElem?_cons_zero] at cR
    have hbad : ¬ RightP t := fun h => by
      obtain ⟨s, hs⟩ := hpre
      have h3 := h.2.2
      rw [← hs] at h3
      exact hno h3.left
    have HBAD := Lib.hid hbad
    have HB1 := Lib.hid hB1
    have HKD := Lib.hid hK
    clear hno hbad hpre hB1 hK bR1
    refine wpIn_exit ?_
    show K _ _
    refine hKK _ _ ?_
    clear hKK
    go_wp2_with fail
    refine ⟨by simp, .inl ⟨_, _, rfl, run_takeDeferred HKD.out, ?_⟩⟩
    refine ⟨.bool false, ?_, YesB.no HBAD.out (HB1.out.trans (belowK_b (w := w) (Nat.le_refl _) W D _ _ (by omega) HKD.out rfl rfl))⟩
    simp [results, Try.f19, go_sem]
end Go.Proofs.Ytbhcgjahlfpjoaa
