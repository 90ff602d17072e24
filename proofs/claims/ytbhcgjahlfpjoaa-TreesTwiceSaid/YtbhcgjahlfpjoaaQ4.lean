/- The iterator over a tree's parts: each, all. -/
import Derived.RangeFuncNested
import Derived.RangeFuncBound
import Derived.RangeFuncCalls
import Derived.RangeFuncLeaves
import Derived.Shelf.Abstract
import Derived.Shelf.RegionOpen
import Derived.WalkKit
import Derived.OwnWalkIn
import Derived.TacticsInMore
import Derived.LoopNIn
import Derived.LoopIn
import Derived.Sort.LoopGhostIn
import Derived.Test.YtbhcgjahlfpjoaaQ2
namespace Go.Proofs.Ytbhcgjahlfpjoaa
open Go.RowKit Go.Shelf

attribute [local go_sem] Oper.semAt_some

theorem room_none {F : Fence} (hd : F.depth = none) (k : Nat) : F.room k := fun d h => by rw [hd] at h; cases h
theorem RoundIn.any {F : Fence} (hd : F.depth = none) {m m' : Nat} {P : Program} {l : Nat} {f : FuncId} {tmps : Array Value} {assign body : Code} {w : World} {R : Ending → World → Prop}
    (h : RoundIn F m P l f tmps assign body w R) : RoundIn F m' P l f tmps assign body w R := ⟨h.1, fun c cs _ => h.2 c cs (room_none hd _)⟩
theorem YieldAt.any {F : Fence} (hd : F.depth = none) {m : Nat} (m' : Nat) {P : Program} {l : Nat} {args : Array Value} {W : World} {R : Ending → World → Prop} (h : YieldAt F m P l args W R) : YieldAt F m' P l args W R := by
  obtain ⟨fn, tmps, assign, body, hy, hR⟩ := h
  exact ⟨fn, tmps, assign, body, hy, RoundIn.any hd hR⟩

/-- What a round keeps: what lies below m0, and all cells but those of S. -/
def Keep (S : Nat → Prop) (m0 : Nat) (A B : World) : Prop := Below m0 A B ∧ A.heap.size ≤ B.heap.size ∧ ∀ k cs, Blk A k 27 cs → ¬ S k → Blk B k 27 cs
section
variable {S : Nat → Prop} {m0 : Nat} {A B C : World}
theorem Keep.refl (S : Nat → Prop) (m0 : Nat) (A : World) : Keep S m0 A A := ⟨Below.refl _ _, Nat.le_refl _, fun _ _ h _ => h⟩
theorem Keep.trans (h : Keep S m0 A B) (h' : Keep S m0 B C) : Keep S m0 A C := ⟨h.1.trans h'.1, Nat.le_trans h.2.1 h'.2.1, fun k cs a b => h'.2.2 k cs (h.2.2 k cs a b) b⟩
theorem Keep.alloc (S : Nat → Prop) (h0 : m0 ≤ A.heap.size) (o : Obj) : Keep S m0 A (A.alloc o) := ⟨(Below.refl _ _).alloc h0 o, by simp, fun _ _ a _ => a.alloc o⟩
theorem Keep.of_below (S : Nat → Prop) (h0 : m0 ≤ A.heap.size) (h : Below A.heap.size A B) : Keep S m0 A B := ⟨h.mono h0, h.size, fun _ _ a _ => a.below h a.lt⟩
theorem Keep.blk {g : Nat} {cs : Array Value} (h : Keep S m0 A B) (hg : Blk A g 27 cs) (hS : ¬ S g) : Blk B g 27 cs := h.2.2 g _ hg hS
end

/-- A part, with where it lies. -/
abbrev TN (w0 : World) := { x : Tr × TA // TIn w0 x.1 x.2 ∧ x.1.parts ≤ 20000 }
def TN.tr {w0 : World} (x : TN w0) : Tr := x.1.1

/-- What each tells. -/
def EachB (w0 : World) (S : Nat → Prop) (J Jx : List (TN w0) → World → Prop) (pre : List (TN w0)) (l : List Tr) (W : World) (e : Ending) (W' : World) : Prop :=
  (∃ ys : List (TN w0), ys.map TN.tr = l ∧ e = .returned (.bool true) ∧ J (pre ++ ys) W' ∧ Keep S w0.heap.size W W') ∨ (∃ ys : List (TN w0), ys.map TN.tr <+: l ∧ e = .returned (.bool false) ∧ Jx (pre ++ ys) W')
/-- What a round tells. -/
def RoundB (w0 : World) (S : Nat → Prop) (J Jx : List (TN w0) → World → Prop) (pre : List (TN w0)) (x : TN w0) (W : World) (e : Ending) (W' : World) : Prop :=
  (e = .returned (.bool true) ∧ J (pre ++ [x]) W' ∧ Keep S w0.heap.size W W') ∨ (e = .returned (.bool false) ∧ Jx (pre ++ [x]) W')
set_option maxRecDepth 100000 in
set_option maxHeartbeats 4000000 in
theorem each_in (F : Fence) (hd : F.depth = none) (hE : F.fn 81) (hro : F.round = none) (l m1 N : Nat) (S : Nat → Prop) (hS : ∀ k, S k → k < m1) (w0 : World) (hm : w0.heap.size ≤ m1) (J Jx : List (TN w0) → World → Prop)
    (hJ : ∀ s W o, J s W → J s (W.alloc o))
    (hY : ∀ m pre x W, J pre W → pre.length < N → YieldAt F m Try.prog l #[.agg #[.int .i64 x.1.1.op, .slice x.1.2.kA x.1.2.kn x.1.2.kc, .int .i32 x.1.1.rune, .slice x.1.2.sA x.1.2.sn x.1.2.sc, .int .i64 x.1.1.at_, .int .i64 x.1.1.cap, .string x.1.1.name, .int .i64 x.1.1.mn, .int .i64 x.1.1.mx, .bool x.1.1.lzy]] W (RoundB w0 S J Jx pre x W)) (t : Tr) :
    ∀ (n : Nat) {kA : Option Addr} {kn kc : Nat} {sA : Option Addr} {sn sc : Nat} (pre : List (TN w0)) (W : World), TIn w0 t ⟨kA, kn, kc, sA, sn, sc⟩ → t.parts ≤ 20000 → Below w0.heap.size w0 W → m1 ≤ W.heap.size → J pre W → pre.length + t.all.length ≤ N →
      CallsIn F n Try.prog 81 #[.agg #[.int .i64 t.op, .slice kA kn kc, .int .i32 t.rune, .slice sA sn sc, .int .i64 t.at_, .int .i64 t.cap, .string t.name, .int .i64 t.mn, .int .i64 t.mx, .bool t.lzy], .func (.yield l) #[] #[]] W (EachB w0 S J Jx pre t.all W) := by
  induction t using Tr.ind with
  | h t ih =>
  intro n kA kn kc sA sn sc pre W ht hpt hW hm1 hj hN
  have hdd : ∀ k : Nat, (F.depth.isSome = true → 1 ≤ k) := fun k h => by rw [hd] at h; cases h
  rw [Tr.all_eq] at hN ⊢
  obtain ⟨ka, hK⟩ := ht.kidsV
  have hkn : (kn : Int) ≤ 9223372036854775807 := by have h1 := hK.max; have h2 := hK.le; unfold maxLen at h1; omega
  -- its own box
  have hB := TBox.newV W t kA kn kc sA sn sc
  have hk0 : Keep S w0.heap.size W (W.alloc (.cells #[.int .i64 t.op, .slice kA kn kc, .int .i32 t.rune, .slice sA sn sc, .int .i64 t.at_, .int .i64 t.cap, .string t.name, .int .i64 t.mn, .int .i64 t.mx, .bool t.lzy] 27)) := Keep.alloc S (Nat.le_trans hm hm1) _
  have hj0 := hJ pre W (.cells #[.int .i64 t.op, .slice kA kn kc, .int .i32 t.rune, .slice sA sn sc, .int .i64 t.at_, .int .i64 t.cap, .string t.name, .int .i64 t.mn, .int .i64 t.mx, .bool t.lzy] 27) hj
  have hg : ¬ S W.heap.size := fun h => by have := hS _ h; omega
  obtain ⟨fn, tmps, assign, body, hy, hR⟩ := hY (n - 1) pre ⟨(t, ⟨kA, kn, kc, sA, sn, sc⟩), ht, hpt⟩ _ hj0 (by simp only [List.length_cons] at hN; omega)
  dsimp only at hy
  have h10 := hB.ten
  have k0 := h10.c0
  have k1 := h10.c1
  have k2 := h10.c2
  have k3 := h10.c3
  have k4 := h10.c4
  have k5 := h10.c5
  have k6 := h10.c6
  have k7 := h10.c7
  have k8 := h10.c8
  have k9 := h10.c9
  dsimp only at k1 k3
  have HB := Lib.hid hB
  have HK := Lib.hid hK
  have HK0 := Lib.hid hk0
  have HW := Lib.hid hW
  have HG := Lib.hid hg
  have HN := Lib.hid hN
  have HR := Lib.hid hR
  have HT := Lib.hid ht
  have HM := Lib.hid hm1
  have IH := Lib.hid ih
  clear hB hK hk0 hW hg hN hR hj hj0 h10 ih hm1
  refine callsIn_of_wp Try.func81 rfl hE ?_ hro
  simp only [Try.ntmps81, List.size_toArray, List.length_cons, List.length_nil, Nat.reduceAdd, Nat.reduceSub, Array.replicate_succ, Array.replicate_zero, List.push_toArray, List.append_toArray, List.nil_append, List.cons_append]
  gi_wp2
  refine HR.out.mono ?_
  rintro e W3 (⟨rfl, hj3, hk3⟩ | ⟨rfl, hjx3⟩)
  · have hb3 : TBox W3 W.heap.size t ⟨kA, kn, kc, sA, sn, sc⟩ := hk3.blk HB.out HG.out
    have c1 := hb3.ten.c1
    dsimp only at c1
    have HK3 := Lib.hid (HK0.out.trans hk3)
    have HJ3 := Lib.hid hj3
    clear k0 k1 k2 k3 k4 k5 k6 k7 k8 k9 hk3 hj3 hb3 hy HR HB
    gi_wp2
    clear c1
    gi_loopg [14] (kn + 1) (fun q i V => ∃ (j : Nat) (ys : List (TN w0)), q = kn + 1 - j ∧ j ≤ kn ∧ i = .int .i64 (j : Int) ∧ Hid (ys.map TN.tr = t :: Tr.allL (t.kids.take j)) ∧ Hid (J (pre ++ ys) V) ∧ Hid (Keep S w0.heap.size W V))
    case atStart => exact ⟨0, [⟨(t, ⟨kA, kn, kc, sA, sn, sc⟩), ht, hpt⟩], rfl, Nat.zero_le _, rfl, Lib.hid (by simp [TN.tr, Tr.allL]), HJ3, HK3⟩
    case round =>
      obtain ⟨j, ys, hgk, hj, rfl, HY, HJV, HKV⟩ := hrel
      have HGK := Lib.hid hgk
      have HJ := Lib.hid hj
      clear hgk hj
      by_cases hlt : j < kn
      · obtain ⟨b, o, k, x, rfl, hb, hk, hx, hc⟩ := HK.out.at hlt
        have hWV := HW.out.trans HKV.out.1
        have h10 := hc wr (.of_below hWV (Nat.le_refl _))
        have k0 := h10.c0
        have k1 := h10.c1
        have k2 := h10.c2
        have k3 := h10.c3
        have k4 := h10.c4
        have k5 := h10.c5
        have k6 := h10.c6
        have k7 := h10.c7
        have k8 := h10.c8
        have k9 := h10.c9
        have hi : (j : Int) < (kn : Int) := by omega
        have hbx := TBox.newA wr k x
        have HM2 := Lib.hid (Nat.le_trans HM.out HKV.out.2.1)
        have HWV := Lib.hid hWV
        have hkw : Keep S w0.heap.size W (wr.alloc (.cells #[.int .i64 k.op, .slice x.kA x.kn x.kc, .int .i32 k.rune, .slice x.sA x.sn x.sc, .int .i64 k.at_, .int .i64 k.cap, .string k.name, .int .i64 k.mn, .int .i64 k.mx, .bool k.lzy] 27)) := HKV.out.trans (Keep.alloc S (Nat.le_trans hm HM2.out) _)
        have hjw := hJ _ _ (.cells #[.int .i64 k.op, .slice x.kA x.kn x.kc, .int .i32 k.rune, .slice x.sA x.sn x.sc, .int .i64 k.at_, .int .i64 k.cap, .string k.name, .int .i64 k.mn, .int .i64 k.mx, .bool k.lzy] 27) HJV.out
        have hbw : Below w0.heap.size w0 (wr.alloc (.cells #[.int .i64 k.op, .slice x.kA x.kn x.kc, .int .i32 k.rune, .slice x.sA x.sn x.sc, .int .i64 k.at_, .int .i64 k.cap, .string k.name, .int .i64 k.mn, .int .i64 k.mx, .bool k.lzy] 27)) := HWV.out.alloc (Nat.le_trans hm HM2.out) _
        have hNk : (pre ++ ys).length + k.all.length ≤ N := by
          have h1 := congrArg List.length HY.out
          have h2 := HN.out
          have h3 : (Tr.allL (t.kids.take j)).length + k.all.length ≤ (Tr.allL t.kids).length := by
            have := congrArg List.length (Tr.allL_take hk)
            have h4 := congrArg List.length (Tr.allL_app (t.kids.take (j + 1)) (t.kids.drop (j + 1)))
            rw [List.take_append_drop] at h4
            rw [List.length_append] at this h4
            omega
          simp only [List.length_map, List.length_cons, List.length_append] at h1 h2 ⊢
          omega
        have hcall := IH.out k (List.mem_of_getElem? hk) (n - 1) (pre ++ ys) _ hx (by have := Tr.partsL_le (List.mem_of_getElem? hk); rw [Tr.parts_eq] at hpt; omega) hbw (by simp; have := HM2.out; omega) hjw hNk
        have HKK := Lib.hid hk
        have HLT := Lib.hid hlt
        have HKW := Lib.hid hkw
        have q := hbx.ten
        have q0 := q.c0
        have q1 := q.c1
        have q2 := q.c2
        have q3 := q.c3
        have q4 := q.c4
        have q5 := q.c5
        have q6 := q.c6
        have q7 := q.c7
        have q8 := q.c8
        have q9 := q.c9
        clear h10 hc hx hk hb hlt hbx hWV hkw hjw hbw hNk q
        gi_wp2_with ((try refine ⟨hdd _, ?_⟩); gi_at_call 81; refine hcall.mono ?_; rintro e W5 (⟨zs, hzs, rfl, hj5, hk5⟩ | ⟨zs, hzs, rfl, hjx5⟩))
        · gi_roundg (kn + 1 - (j + 1))
          case measure => have := HGK.out; have := HLT.out; omega
          case rel =>
            refine ⟨j + 1, ys ++ zs, rfl, by have := HLT.out; omega, by go_num, Lib.hid ?_, Lib.hid ?_, Lib.hid (HKW.out.trans hk5)⟩
            · rw [List.map_append, HY.out, hzs, Tr.allL_take HKK.out, List.cons_append]
            · rw [← List.append_assoc]; exact hj5
        · go_ret
          refine .inr ⟨ys ++ zs, ?_, rfl, by rw [← List.append_assoc]; exact hjx5⟩
          rw [List.map_append, HY.out]
          obtain ⟨r, hr⟩ := hzs
          refine ⟨r ++ Tr.allL (t.kids.drop (j + 1)), ?_⟩
          have h4 := Tr.allL_app (t.kids.take (j + 1)) (t.kids.drop (j + 1))
          rw [List.take_append_drop, Tr.allL_take HKK.out, ← hr] at h4
          rw [h4]
          simp [List.append_assoc]
      · have hi : ¬ (j : Int) < (kn : Int) := by omega
        have hall : t.kids.take j = t.kids := by rw [show j = t.kids.length by have := HK.out.len; have := HJ.out; omega, List.take_length]
        rw [hall] at HY
        clear hlt hall
        gi_wp2
        go_ret
        exact .inl ⟨ys, HY.out, rfl, HJV.out, HKV.out⟩
  · gi_wp2
    go_ret
    exact .inr ⟨[⟨(t, ⟨kA, kn, kc, sA, sn, sc⟩), ht, hpt⟩], by simp [TN.tr], rfl, hjx3⟩
end Go.Proofs.Ytbhcgjahlfpjoaa
