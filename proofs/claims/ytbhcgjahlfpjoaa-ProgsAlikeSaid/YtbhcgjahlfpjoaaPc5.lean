/- The reference's Walk in memory. -/
import Derived.Test.YtbhcgjahlfpjoaaPc4
namespace Go.Proofs.Ytbhcgjahlfpjoaa
open Go.RowKit

theorem Runs.num {L : List MI} {T : MI → Bool} {lng : Bool} {k : List Int} {s e : CS} (h : Runs L T lng k s e) : e.seen.length = s.seen.length ∧ e.left ≤ s.left ∧ e.out.length + e.left ≤ s.out.length + s.left := by
  induction h with
  | nil s => exact ⟨rfl, Nat.le_refl _, Nat.le_refl _⟩
  | skip _ _ ih => exact ih
  | @step pc k s e x h1 h2 h3 _ ih =>
    have hl := CS.left_mark (x := x) h2
    have ho : (s.mark x pc).out.length ≤ s.out.length + 1 := by
      unfold CS.mark
      dsimp only
      split <;> simp
    obtain ⟨i1, i2, i3⟩ := ih
    rw [CS.len_mark] at i1
    exact ⟨i1, by omega, by omega⟩

/-- What a call of come leaves as it was: all but the walk's own, and where what reads lies. -/
structure Kpt (g gs : Nat) (O O' : Option Addr) (W W' : World) : Prop where
  size : W.heap.size ≤ W'.heap.size
  kept : ∀ k, k < W.heap.size → k ≠ g → k ≠ gs → (Value.slice O 0 0).ownBlock ≠ some k → W'.heap[k]? = W.heap[k]?
  lies : (Value.slice O' 0 0).ownBlock = (Value.slice O 0 0).ownBlock ∨ ∃ k, (Value.slice O' 0 0).ownBlock = some k ∧ W.heap.size ≤ k
section
variable {g gs : Nat} {O O' O2 : Option Addr} {W W' W2 : World}
theorem Kpt.refl (g gs : Nat) (O : Option Addr) (W : World) : Kpt g gs O O W W := ⟨Nat.le_refl _, fun _ _ _ _ _ => rfl, .inl rfl⟩
theorem Kpt.trans (h : Kpt g gs O O' W W') (h2 : Kpt g gs O' O2 W' W2) : Kpt g gs O O2 W W2 := by
  refine ⟨Nat.le_trans h.size h2.size, fun k a b c d => ?_, ?_⟩
  · refine (h2.kept k (Nat.lt_of_lt_of_le a h.size) b c ?_).trans (h.kept k a b c d)
    rcases h.lies with e | ⟨j, e, hj⟩
    · rw [e]; exact d
    · rw [e]; intro e'; injection e' with e'; omega
  · rcases h2.lies with e | ⟨j, e, hj⟩
    · rw [e]; exact h.lies
    · exact .inr ⟨j, e, Nat.le_trans h.size hj⟩
theorem Kpt.alloc (g gs : Nat) (O : Option Addr) (W : World) (o : Obj) : Kpt g gs O O W (W.alloc o) := ⟨by simp, fun k a _ _ _ => Below.heap_alloc W o k a, .inl rfl⟩
theorem Kpt.set (O : Option Addr) (W : World) {p : Addr} (hp : p.block = g ∨ p.block = gs) (u : Value) : Kpt g gs O O W (W.setCell p u) :=
  ⟨by simp [World.setCell], fun k _ b c _ => Below.heap_setCell W p u k (by rintro rfl; rcases hp with h | h; exact b h; exact c h), .inl rfl⟩
theorem Kpt.drew (h : Kpt g gs O O' W W') : Kpt g gs O O' W W'.drew := ⟨h.size, h.kept, h.lies⟩
theorem Kpt.blk (h : Kpt g gs O O' W W') {gx : Nat} {t : TypeId} {cs : Array Value} (hx : Blk W gx t cs) (h1 : gx ≠ g) (h2 : gx ≠ gs) (h3 : (Value.slice O 0 0).ownBlock ≠ some gx) : Blk W' gx t cs := (h.kept gx hx.lt h1 h2 h3).trans hx
end

structure WkM (w W : World) (A : Option Addr) (n c : Nat) (st cp at_ : Int) (lng : Bool) (g gs : Nat) (seen : List Bool) (O : Option Addr) (oc : Nat) (out : List Int) (mt : Bool) : Prop where
  below : Below w.heap.size w W
  blk : Blk W g 80 #[.slice A n c, .int .i64 st, .int .i64 cp, .int .i64 at_, .bool lng, .slice (some ⟨gs, 0, none⟩) n n, .slice O out.length oc, .bool mt]
  seenB : Blk W gs 4 (seen.map Value.bool).toArray
  own : W.ownsRow w.heap.size 3 1 (.slice O out.length oc) out.length (i64s out)
  hg : w.heap.size ≤ g
  hgs : w.heap.size ≤ gs
section
variable {w W W2 : World} {A : Option Addr} {n c : Nat} {st cp at_ : Int} {lng : Bool} {g gs : Nat} {seen : List Bool} {O : Option Addr} {oc : Nat} {out : List Int} {mt : Bool}
theorem WkM.alloc (h : WkM w W A n c st cp at_ lng g gs seen O oc out mt) (o : Obj) : WkM w (W.alloc o) A n c st cp at_ lng g gs seen O oc out mt :=
  ⟨h.below.alloc h.below.size o, h.blk.alloc o, h.seenB.alloc o, h.own.alloc o, h.hg, h.hgs⟩
theorem WkM.drew (h : WkM w W A n c st cp at_ lng g gs seen O oc out mt) : WkM w W.drew A n c st cp at_ lng g gs seen O oc out mt :=
  ⟨h.below.drew, h.blk.drew, h.seenB.drew, h.own, h.hg, h.hgs⟩
theorem WkM.ne (h : WkM w W A n c st cp at_ lng g gs seen O oc out mt) : g ≠ gs := Blk.ne h.blk h.seenB (by decide)
theorem WkM.seenAt (h : WkM w W A n c st cp at_ lng g gs seen O oc out mt) {j : Nat} {b : Bool} (hj : seen[j]? = some b) : W.cell? ⟨gs, j, none⟩ = some (.bool b) := by
  rw [h.seenB.cell]
  simp [hj]
theorem WkM.setSeen (h : WkM w W A n c st cp at_ lng g gs seen O oc out mt) (j : Nat) : WkM w (W.setCell ⟨gs, j, none⟩ (.bool true)) A n c st cp at_ lng g gs (seen.set j true) O oc out mt := by
  refine ⟨h.below.setCell h.hgs _, h.blk.far h.ne _, ?_, own_far h.own h.seenB (by decide) _ _, h.hg, h.hgs⟩
  have := h.seenB.set j (.bool true)
  simpa [List.map_set] using this
theorem WkM.setMt (h : WkM w W A n c st cp at_ lng g gs seen O oc out mt) (b : Bool) : WkM w (W.setCell ⟨g, 7, none⟩ (.bool b)) A n c st cp at_ lng g gs seen O oc out b := by
  refine ⟨h.below.setCell h.hg _, ?_, h.seenB.far h.ne.symm _, own_far h.own h.blk (by decide) _ _, h.hg, h.hgs⟩
  have := h.blk.set 7 (.bool b)
  simpa using this
theorem WkM.put {v' : Value} {x : Int} (h : WkM w W A n c st cp at_ lng g gs seen O oc out mt) (hown : W2.ownsRow w.heap.size 3 1 v' (out.length + 1) (i64s out ++ [.int .i64 x]))
    (hg : W.grownBy W2 (Value.slice O out.length oc).ownBlock) (hat : v'.ownBlock = (Value.slice O out.length oc).ownBlock ∨ v'.ownBlock = some W.heap.size) :
    ∃ O' oc', v' = .slice O' (out ++ [x]).length oc' ∧ W2.cell? ⟨g, 6, none⟩ = some (.slice O out.length oc) ∧ W2.frozen? ⟨g, 6, none⟩ = false ∧
      WkM w (W2.setCell ⟨g, 6, none⟩ (.slice O' (out ++ [x]).length oc')) A n c st cp at_ lng g gs seen O' oc' (out ++ [x]) mt ∧ Kpt g gs O O' W (W2.setCell ⟨g, 6, none⟩ (.slice O' (out ++ [x]).length oc')) := by
  obtain ⟨O', oc', rfl, _, _⟩ := own_form hown
  have e1 : out.length + 1 = (out ++ [x]).length := by simp
  have e2 : i64s out ++ [Value.int .i64 x] = i64s (out ++ [x]) := by rw [i64s_append]; rfl
  rw [e2, e1] at hown
  rw [e1] at hat
  have hlt := h.own.lt
  have hB := h.blk.grown hg (own_ne_blk h.own h.blk (by decide))
  refine ⟨O', oc', by rw [e1], by rw [hB.cell]; rfl, hB.frozen 6, ?_, ?_⟩
  · refine ⟨(h.below.grown hg h.below.size fun k hk => (hlt k hk).1).setCell h.hg _, ?_, (h.seenB.grown hg (own_ne_blk h.own h.seenB (by decide))).far h.ne.symm _, own_far hown hB (by decide) _ _, h.hg, h.hgs⟩
    have := hB.set 6 (.slice O' (out ++ [x]).length oc')
    simpa using this
  · refine ⟨Nat.le_trans hg.size (by simp [World.setCell]), fun k a b c d => ?_, ?_⟩
    · refine (Below.heap_setCell W2 _ _ k (by simpa using b)).trans (hg.block k a ?_)
      rw [ownBlock_len O _ oc 0 0]
      exact fun e => d e.symm
    · rw [ownBlock_len O' 0 0 (out ++ [x]).length oc', ownBlock_len O 0 0 out.length oc]
      rcases hat with e | e
      · exact .inl e
      · exact .inr ⟨_, e, Nat.le_refl _⟩
end
end Go.Proofs.Ytbhcgjahlfpjoaa
