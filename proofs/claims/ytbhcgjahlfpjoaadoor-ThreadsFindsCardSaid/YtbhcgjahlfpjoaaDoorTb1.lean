/- Threads: which blocks are written; the rows of a list of the machine. -/
import Derived.Test.YtbhcgjahlfpjoaaDoorMem
namespace Go.Proofs.YtbhcgjahlfpjoaaDoor
open Go.RowKit

/-- Outside S all blocks are as they were. -/
structure Frm (S : Nat → Prop) (w w' : World) : Prop where
  os : w'.os = w.os
  tape : w'.tape = w.tape
  output : w'.output = w.output
  size : w.heap.size ≤ w'.heap.size
  block : ∀ k, k < w.heap.size → ¬ S k → w'.heap[k]? = w.heap[k]?
section
variable {S S1 : Nat → Prop} {w w1 w2 : World}
theorem Frm.refl (S : Nat → Prop) (w : World) : Frm S w w := ⟨rfl, rfl, rfl, Nat.le_refl _, fun _ _ _ => rfl⟩
theorem Frm.trans (h : Frm S w w1) (h1 : Frm S1 w1 w2) (hS : ∀ k, S1 k → S k ∨ w.heap.size ≤ k) : Frm S w w2 :=
  ⟨h1.os.trans h.os, h1.tape.trans h.tape, h1.output.trans h.output, Nat.le_trans h.size h1.size, fun k hk hn => (h1.block k (Nat.lt_of_lt_of_le hk h.size) (fun h2 => by
    rcases hS k h2 with h3 | h3
    · exact hn h3
    · omega)).trans (h.block k hk hn)⟩
theorem Frm.mono (h : Frm S w w1) (hS : ∀ k, S k → S1 k) : Frm S1 w w1 := ⟨h.os, h.tape, h.output, h.size, fun k hk hn => h.block k hk fun h2 => hn (hS k h2)⟩
theorem Frm.drew (h : Frm S w w1) : Frm S w w1.drew := ⟨h.os, h.tape, h.output, h.size, h.block⟩
theorem Frm.drewN (h : Frm S w w1) (n : Nat) : Frm S w (w1.drewN n) := ⟨h.os, h.tape, h.output, h.size, h.block⟩
theorem Frm.undrew (h : Frm S w.drew w1) : Frm S w w1 := ⟨h.os, h.tape, h.output, h.size, h.block⟩
theorem Frm.of_below (h : Below w.heap.size w w1) : Frm S w w1 := ⟨h.os, h.tape, h.output, h.size, fun k hk _ => h.block k hk⟩
theorem Frm.below (h : Frm S w w1) {B : Nat} (hS : ∀ k, S k → B ≤ k) (hB : B ≤ w.heap.size) : Below B w w1 := ⟨h.os, h.tape, h.output, h.size, fun k hk => h.block k (by omega) fun h2 => by have := hS k h2; omega⟩
theorem Frm.alloc (h : Frm S w w1) (o : Obj) : Frm S w (w1.alloc o) :=
  have hb : Below w1.heap.size w1 (w1.alloc o) := (Below.refl _ _).alloc (Nat.le_refl _) o
  h.trans (.of_below (S := S) hb) fun _ h => .inl h
theorem Frm.set (h : Frm S w w1) {p : Addr} (hp : S p.block ∨ w.heap.size ≤ p.block) (u : Value) : Frm S w (w1.setCell p u) :=
  ⟨h.os, h.tape, h.output, by simp only [World.setCell, Array.size_modify]; exact h.size, fun k hk hn => (Below.heap_setCell w1 p u k (fun e => by
    subst e
    rcases hp with h3 | h3
    · exact hn h3
    · omega)).trans (h.block k hk hn)⟩
theorem Frm.grown (h : Frm S w w1) {row : Option Nat} (hg : w1.grownBy w2 row) (hr : ∀ k, row = some k → S k ∨ w.heap.size ≤ k) : Frm S w w2 :=
  ⟨hg.os.trans h.os, hg.tape.trans h.tape, hg.output.trans h.output, Nat.le_trans h.size hg.size, fun k hk hn => (hg.block k (Nat.lt_of_lt_of_le hk h.size) (fun e => by
    rcases hr k e.symm with h3 | h3
    · exact hn h3
    · omega)).trans (h.block k hk hn)⟩
theorem Frm.same (h : Frm S w w1) {lo U : Nat} (hS : ∀ k, lo ≤ k → k < U → ¬ S k) (hU : U ≤ w.heap.size) : Same lo U w w1 := fun k a b => h.block k (by omega) (hS k a b)
theorem Frm.blk (h : Frm S w w1) {g : Nat} {t : TypeId} {cs : Array Value} (hB : Blk w g t cs) (hg : ¬ S g) : Blk w1 g t cs := (h.block g hB.lt hg).trans hB
theorem Frm.own (h : Frm S w w1) {base n : Nat} {e : TypeId} {size : Nat} {v : Value} {xs : List Value} (ho : w.ownsRow base e size v n xs) (hv : ∀ k, v.ownBlock = some k → ¬ S k) : w1.ownsRow base e size v n xs := by
  refine ⟨ho.1, ?_⟩
  rcases ho.2 with hn | ⟨g, cap, cur, rfl, hb, hgg, rest⟩
  · exact .inl hn
  · exact .inr ⟨g, cap, cur, rfl, hb, (h.block g (Array.getElem?_eq_some_iff.1 hgg).1 (hv g rfl)).trans hgg, rest⟩
end

section
variable {W : World} {base g n cap : Nat} {e t : TypeId} {v : Value} {xs : List Value} {cs : Array Value}
theorem own_far1 {m : Nat} (h : W.ownsRow base e 1 v m xs) (hg : Blk W g t cs) (hne : e ≠ t) (i : Nat) (u : Value) : (W.setCell ⟨g, i, none⟩ u).ownsRow base e 1 v m xs :=
  h.kept (row := some g) ⟨rfl, rfl, rfl, by simp [World.setCell], fun k _ hk => Below.heap_setCell _ _ _ _ (fun e => hk (by rw [e]))⟩ (.inr (own_ne_blk h hg hne))
theorem own_cut0 {A : Option Addr} {k kc : Nat} (h : W.ownsRow base e 1 (.slice A k kc) k xs) : W.ownsRow base e 1 (.slice A 0 kc) 0 [] := by
  refine ⟨rfl, ?_⟩
  rcases h.2 with ⟨h', _⟩ | ⟨g, cap, cur, h', hb, hg, h1, h2, h3, _⟩
  · simp only [Value.slice.injEq] at h'
    obtain ⟨rfl, _, rfl⟩ := h'
    exact .inl ⟨rfl, rfl⟩
  · simp only [Value.slice.injEq, true_and] at h'
    obtain ⟨rfl, rfl⟩ := h'
    exact .inr ⟨g, kc, cur, rfl, hb, hg, Nat.zero_le _, h2, h3, by simp⟩
end

def foot (a b c : Value) (k : Nat) : Prop := a.ownBlock = some k ∨ b.ownBlock = some k ∨ c.ownBlock = some k
/-- The three rows of a list, and the machine's block, since the world w. -/
structure RowsM (b0 : Nat) (S : Nat → Prop) (w W : World) (g : Nat) (cells : Array Value) (va vn vv : Value) (ats nums vs : List Value) : Prop where
  frm : Frm S w W
  box : Blk W g 73 cells
  oa : W.ownsRow b0 3 1 va ats.length ats
  on : W.ownsRow b0 3 1 vn nums.length nums
  ov : W.ownsRow b0 35 1 vv vs.length vs
  san : va.ownBlock = none ∨ va.ownBlock ≠ vn.ownBlock
  ft : ∀ k, foot va vn vv k → S k ∨ w.heap.size ≤ k
  hg : S g
section
variable {b0 : Nat} {S : Nat → Prop} {w W W2 : World} {g : Nat} {cells : Array Value} {va vn vv v' : Value} {ats nums vs : List Value} {x : Value}
theorem RowsM.alloc (h : RowsM b0 S w W g cells va vn vv ats nums vs) (o : Obj) : RowsM b0 S w (W.alloc o) g cells va vn vv ats nums vs :=
  ⟨h.frm.alloc o, h.box.alloc o, h.oa.alloc o, h.on.alloc o, h.ov.alloc o, h.san, h.ft, h.hg⟩
theorem RowsM.drew (h : RowsM b0 S w W g cells va vn vv ats nums vs) : RowsM b0 S w W.drew g cells va vn vv ats nums vs :=
  ⟨h.frm.drew, h.box.drew, h.oa, h.on, h.ov, h.san, h.ft, h.hg⟩
theorem RowsM.setG (h : RowsM b0 S w W g cells va vn vv ats nums vs) (i : Nat) (u : Value) : RowsM b0 S w (W.setCell ⟨g, i, none⟩ u) g (cells.setIfInBounds i u) va vn vv ats nums vs :=
  ⟨h.frm.set (.inl h.hg) u, h.box.set i u, own_far1 h.oa h.box (by decide) i u, own_far1 h.on h.box (by decide) i u, own_far1 h.ov h.box (by decide) i u, h.san, h.ft, h.hg⟩
theorem RowsM.setA {ga n ca : Nat} (h : RowsM b0 S w W g cells (.slice (some ⟨ga, 0, none⟩) n ca) vn vv ats nums vs) (i : Nat) (u : Value) : RowsM b0 S w (W.setCell ⟨ga, i, none⟩ u) g cells (.slice (some ⟨ga, 0, none⟩) n ca) vn vv (ats.set i u) nums vs := by
  have hl : ats.length = n := by
    obtain ⟨_, _, h1, _⟩ := own_form h.oa
    injection h1 with _ h1 _
    exact h1.symm
  have hoa := h.oa
  rw [hl] at hoa
  have hst := (hoa.stored i u).1
  obtain ⟨cur, hB, _⟩ := own_blk hoa
  refine ⟨h.frm.set (h.ft ga (.inl rfl)) u, h.box.far (Blk.ne h.box hB (by decide)) u, by rw [List.length_set, hl]; exact hst, ?_, own_far1 h.ov hB (by decide) i u, h.san, h.ft, h.hg⟩
  refine h.on.kept (row := some ga) ⟨rfl, rfl, rfl, by simp [World.setCell], fun k _ hk => Below.heap_setCell _ _ _ _ (fun e => hk (by rw [e]))⟩ (.inr ?_)
  rcases h.san with h1 | h1
  · simp [Value.ownBlock] at h1
  · exact fun e => h1 (by rw [e]; rfl)
theorem RowsM.appN (h : RowsM b0 S w W g cells va vn vv ats nums vs) (ho : W2.ownsRow b0 3 1 v' (nums.length + 1) (nums ++ [x])) (hg : W.grownBy W2 vn.ownBlock) (hat : v'.ownBlock = vn.ownBlock ∨ v'.ownBlock = some W.heap.size) :
    RowsM b0 S w W2 g cells va v' vv ats (nums ++ [x]) vs := by
  have hsz := h.frm.size
  refine ⟨h.frm.grown hg fun k hk => h.ft k (.inr (.inl hk)), h.box.grown hg (own_ne_blk h.on h.box (by decide)), h.oa.kept hg h.san, by simpa using ho, h.ov.kept hg (own_ne_own h.ov h.on (by decide)), ?_, ?_, h.hg⟩
  · rcases hat with h1 | h1
    · rw [h1]; exact h.san
    · rw [h1]
      right
      intro e
      have := (h.oa.lt _ e).2
      omega
  · rintro k (h1 | h1 | h1)
    · exact h.ft k (.inl h1)
    · rcases hat with h2 | h2
      · exact h.ft k (.inr (.inl (by rw [← h2]; exact h1)))
      · rw [h1] at h2
        injection h2 with h2
        right; omega
    · exact h.ft k (.inr (.inr h1))
theorem RowsM.appV (h : RowsM b0 S w W g cells va vn vv ats nums vs) (ho : W2.ownsRow b0 35 1 v' (vs.length + 1) (vs ++ [x])) (hg : W.grownBy W2 vv.ownBlock) (hat : v'.ownBlock = vv.ownBlock ∨ v'.ownBlock = some W.heap.size) :
    RowsM b0 S w W2 g cells va vn v' ats nums (vs ++ [x]) := by
  have hsz := h.frm.size
  refine ⟨h.frm.grown hg fun k hk => h.ft k (.inr (.inr hk)), h.box.grown hg (own_ne_blk h.ov h.box (by decide)), h.oa.kept hg (own_ne_own h.oa h.ov (by decide)), h.on.kept hg (own_ne_own h.on h.ov (by decide)), by simpa using ho, h.san, ?_, h.hg⟩
  rintro k (h1 | h1 | h1)
  · exact h.ft k (.inl h1)
  · exact h.ft k (.inr (.inl h1))
  · rcases hat with h2 | h2
    · exact h.ft k (.inr (.inr (by rw [← h2]; exact h1)))
    · rw [h1] at h2
      injection h2 with h2
      right; omega
end
end Go.Proofs.YtbhcgjahlfpjoaaDoor
