/- The iterator over a tree's parts: all, and what it hands out. -/
import Derived.Test.YtbhcgjahlfpjoaaQ4
namespace Go.Proofs.Ytbhcgjahlfpjoaa
open Go.RowKit Go.Shelf

attribute [local go_sem] Oper.semAt_some

set_option maxRecDepth 100000 in
set_option maxHeartbeats 2000000 in
theorem all_stops (F : Fence) (hd : F.depth = none) (n : Nat) (h1 : F.fn 80) (hE : F.fn 81) (hro : F.round = none) (m1 : Nat) (S : Nat → Prop) (hS : ∀ k, S k → k < m1) (w0 : World) (hm : w0.heap.size ≤ m1) (g : Nat) {t : Tr} {kA : Option Addr} {kn kc : Nat} {sA : Option Addr} {sn sc : Nat} (ht : TIn w0 t ⟨kA, kn, kc, sA, sn, sc⟩) (hpt : t.parts ≤ 20000)
    (w : World) (hw : Below w0.heap.size w0 w) (hm1 : m1 ≤ w.heap.size) (hB : TBox w g t ⟨kA, kn, kc, sA, sn, sc⟩) :
    SeqStopsK F n Try.prog 80 #[.pointer (some ⟨g, 0, none⟩)] (fun x : TN w0 => #[.agg #[.int .i64 x.1.1.op, .slice x.1.2.kA x.1.2.kn x.1.2.kc, .int .i32 x.1.1.rune, .slice x.1.2.sA x.1.2.sn x.1.2.sc, .int .i64 x.1.1.at_, .int .i64 x.1.1.cap, .string x.1.1.name, .int .i64 x.1.1.mn, .int .i64 x.1.1.mx, .bool x.1.1.lzy]]) (Keep S w0.heap.size) (fun ys => ys.map TN.tr = t.all) (fun pre => pre.map TN.tr <+: t.all) t.all.length w := by
  intro l J Jx W hW hJ hJx hY h0
  have hdd : ∀ k : Nat, (F.depth.isSome = true → 1 ≤ k) := fun k h => by rw [hd] at h; cases h
  have hb := hB.below hW
  have hsz := hW.size
  have hp := each_in F hd hE hro l m1 t.all.length S hS w0 hm J Jx (fun s W o hs => hJ s W _ none hs (World.grownBy_alloc W o none) (fun r e => by cases e)) (fun m pre x W hj hl => YieldAt.any hd m (hY pre x W hj hl)) t (n - 1) [] W ht hpt (hw.trans (hW.mono hw.size)) (by omega) h0 (by simp)
  have h10 := hb.ten
  have k0 := h10.c0
  have k1 := h10.c1
  have k2 := h10.c2
  have k3 := h10.c3
  have k4 := h10.c4
  have k5 := h10.c5
  have k6 := h10.c6
  have k7 := h10.c7
  have k8 := h10.c8
  have k9 := h10.c9
  dsimp only at k1 k3
  have HT := Lib.hid ht
  clear hb hB h10 hW hsz hw hm1 hm hJ hJx hY h0 ht
  refine callsIn_of_wp Try.func80 rfl h1 ?_ hro
  simp only [Try.ntmps80, List.size_toArray, List.length_cons, List.length_nil, Nat.reduceAdd, Nat.reduceSub, Array.replicate_succ, Array.replicate_zero, List.push_toArray, List.append_toArray, List.nil_append, List.cons_append]
  gi_wp2_with ((try refine ⟨hdd _, ?_⟩); gi_at_call 81; refine hp.mono ?_; clear hp; rintro e W1 (⟨ys, hys, rfl, hJ1, _⟩ | ⟨ys, hys, rfl, hx⟩))
  · go_end0
    exact ⟨⟨_, rfl⟩, .inl ⟨ys, hys, by simpa using hJ1⟩⟩
  · go_end0
    exact ⟨⟨_, rfl⟩, .inr ⟨ys, hys, by simpa using hx⟩⟩
set_option maxHeartbeats 1000000 in
theorem all_in (F : Fence) (n : Nat) (h56 : F.fn 56) (hro : F.round = none) (t : Tr) (kA : Option Addr) (kn kc : Nat) (sA : Option Addr) (sn sc : Nat) (w : World) :
    CallsIn F n Try.prog 56 #[.agg #[.int .i64 t.op, .slice kA kn kc, .int .i32 t.rune, .slice sA sn sc, .int .i64 t.at_, .int .i64 t.cap, .string t.name, .int .i64 t.mn, .int .i64 t.mx, .bool t.lzy]] w fun e w' => e = .returned (.func (.func 80) #[] #[.pointer (some ⟨w.heap.size, 0, none⟩)]) ∧ w' = w.alloc (.cells #[.int .i64 t.op, .slice kA kn kc, .int .i32 t.rune, .slice sA sn sc, .int .i64 t.at_, .int .i64 t.cap, .string t.name, .int .i64 t.mn, .int .i64 t.mx, .bool t.lzy] 27) := by
  refine callsIn_of_wp Try.func56 rfl h56 ?_ hro
  simp only [Try.ntmps56, List.size_toArray, List.length_cons, List.length_nil, Nat.reduceAdd, Nat.reduceSub, Array.replicate_succ, Array.replicate_zero, List.push_toArray, List.append_toArray, List.nil_append, List.cons_append]
  gi_wp2
  go_ret
  exact ⟨rfl, rfl⟩
end Go.Proofs.Ytbhcgjahlfpjoaa
