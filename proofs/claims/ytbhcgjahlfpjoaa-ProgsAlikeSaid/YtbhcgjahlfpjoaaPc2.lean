/- progs.Closure's memory. -/
import Derived.Test.YtbhcgjahlfpjoaaPc1
import Derived.Test.YtbhcgjahlfpjoaaScp
namespace Go.Proofs.Ytbhcgjahlfpjoaa
open Go.RowKit

theorem elI : ElemOK Try.prog 42 3 1 8 := .mk' (z := .int .i64 0) Try.underlying42 (by kernel_rfl) rfl (by decide)
theorem elB : ElemOK Try.prog 77 4 1 1 := .mk' (z := .bool false) Try.underlying77 (by kernel_rfl) rfl (by decide)
theorem mkSeen (w : World) {n : Nat} (hn : n ≤ 10000) : (Instr.makeSlice 77 (.int .i64 (n : Int)) (.int .i64 (n : Int))).run Try.prog w = .ok (.slice (some ⟨w.heap.size, 0, none⟩) n n) (w.alloc (.cells ((List.replicate n false).map Value.bool).toArray 4)) := by
  have hI : (Try.prog.info? 4).map (fun i => (i.zero, i.size, i.bytes)) = some (some (.bool false), 1, 1) := by kernel_rfl
  obtain ⟨i, h1, h2, h3, h4⟩ := info_parts hI
  have := run_make (P := Try.prog) w 77 4 i (.bool false) elB.ht h1 h2 .i64 .i64 n n (by omega) (Int.le_refl _) (by rw [h4]; omega) (by omega)
  rw [this, h3, Int.toNat_natCast, Nat.mul_one]
  have e : madeCells (Value.bool false).cells n = ((List.replicate n false).map Value.bool).toArray := by
    apply Array.ext'
    show (madeCells #[Value.bool false] n).toList = _
    rw [toList_madeCells_one, List.map_replicate]
  rw [e]
theorem own_pop {w : World} {base : Nat} {e : TypeId} {K : Option Addr} {n c : Nat} {l : List Int} {x : Int} (h : w.ownsRow base e 1 (.slice K (n + 1) c) (n + 1) (i64s (l ++ [x]))) : w.ownsRow base e 1 (.slice K n c) n (i64s l) := by
  have hl := h.1
  rw [i64s_length, List.length_append] at hl
  simp only [List.length_cons, List.length_nil] at hl
  refine ⟨by rw [i64s_length]; omega, ?_⟩
  rcases h.2 with ⟨h', _⟩ | ⟨g, cap, cur, h', hb, hg, h1, h2, h3, h4⟩
  · simp at h'
  · simp only [Value.slice.injEq, true_and] at h'
    obtain ⟨rfl, rfl⟩ := h'
    refine .inr ⟨g, _, cur, rfl, hb, hg, by omega, h2, h3, ?_⟩
    have := congrArg (List.take (n * 1)) h4
    rw [List.take_take, Nat.min_eq_left (by omega)] at this
    rw [this, i64s_append, Nat.mul_one]
    have hn : n = (i64s l).length := by rw [i64s_length]; omega
    rw [hn]
    exact List.take_left
theorem own_top {w : World} {base : Nat} {e : TypeId} {K : Option Addr} {n c : Nat} {l : List Int} {x : Int} (h : w.ownsRow base e 1 (.slice K (n + 1) c) (n + 1) (i64s (l ++ [x]))) : ∃ g, K = some ⟨g, 0, none⟩ ∧ w.cell? ⟨g, n, none⟩ = some (.int .i64 x) := by
  have hl := h.1
  rw [i64s_length, List.length_append] at hl
  simp only [List.length_cons, List.length_nil] at hl
  obtain ⟨g, cap, hv, _, _⟩ := h.form (by omega)
  injection hv with hv
  subst hv
  refine ⟨g, rfl, ?_⟩
  have := h.cells (g := g) rfl n (.int .i64 x) (by rw [i64s_append, List.getElem?_append_right (by rw [i64s_length]; omega), i64s_length]; simp [i64s, show n - l.length = 0 by omega])
  rcases Nat.eq_zero_or_pos n with h0 | h0
  · subst h0; simpa [Addr.add] using this
  · simpa [Addr.add, Nat.pos_iff_ne_zero.1 h0] using this

theorem ownBlock_len (K : Option Addr) (a b c d : Nat) : (Value.slice K a b).ownBlock = (Value.slice K c d).ownBlock := by cases K <;> rfl
/-- What Closure has in memory: the program's box, which were come to, what reads, the stack. -/
structure ClM (w W : World) (A : Option Addr) (n c : Nat) (st cp : Int) (gs : Nat) (seen : List Bool) (O : Option Addr) (oc : Nat) (out : List Int) (K : Option Addr) (kc : Nat) (k : List Int) : Prop where
  below : Below w.heap.size w W
  box : Blk W w.heap.size 38 #[.slice A n c, .int .i64 st, .int .i64 cp]
  seenB : Blk W gs 4 (seen.map Value.bool).toArray
  own : W.ownsRow w.heap.size 3 1 (.slice O out.length oc) out.length (i64s out)
  stk : W.ownsRow w.heap.size 3 1 (.slice K k.length kc) k.length (i64s k)
  sep : (Value.slice O out.length oc).ownBlock = none ∨ (Value.slice K k.length kc).ownBlock = none ∨ (Value.slice O out.length oc).ownBlock ≠ (Value.slice K k.length kc).ownBlock
  gsB : w.heap.size ≤ gs
section
variable {w W W2 : World} {A : Option Addr} {n c : Nat} {st cp : Int} {gs : Nat} {seen : List Bool} {O : Option Addr} {oc : Nat} {out : List Int} {K : Option Addr} {kc : Nat} {k : List Int}
theorem ClM.alloc (h : ClM w W A n c st cp gs seen O oc out K kc k) (o : Obj) : ClM w (W.alloc o) A n c st cp gs seen O oc out K kc k :=
  ⟨h.below.alloc h.below.size o, h.box.alloc o, h.seenB.alloc o, h.own.alloc o, h.stk.alloc o, h.sep, h.gsB⟩
theorem ClM.drew (h : ClM w W A n c st cp gs seen O oc out K kc k) : ClM w W.drew A n c st cp gs seen O oc out K kc k :=
  ⟨h.below.drew, h.box.drew, h.seenB.drew, h.own, h.stk, h.sep, h.gsB⟩
theorem ClM.pop {x : Int} (h : ClM w W A n c st cp gs seen O oc out K kc (k ++ [x])) : ClM w W A n c st cp gs seen O oc out K kc k := by
  have hk := h.stk
  have hs := h.sep
  rw [show (k ++ [x]).length = k.length + 1 by simp] at hk
  rw [ownBlock_len K _ kc k.length kc] at hs
  exact ⟨h.below, h.box, h.seenB, h.own, own_pop hk, hs, h.gsB⟩
theorem ClM.top {x : Int} (h : ClM w W A n c st cp gs seen O oc out K kc (k ++ [x])) : ∃ g, K = some ⟨g, 0, none⟩ ∧ W.cell? ⟨g, k.length, none⟩ = some (.int .i64 x) := by
  have hk := h.stk
  rw [show (k ++ [x]).length = k.length + 1 by simp] at hk
  exact own_top hk
theorem ClM.seenAt (h : ClM w W A n c st cp gs seen O oc out K kc k) {j : Nat} {b : Bool} (hj : seen[j]? = some b) : W.cell? ⟨gs, j, none⟩ = some (.bool b) := by
  rw [h.seenB.cell]
  simp [hj]
theorem own_far {base e g : Nat} {v : Value} {m : Nat} {xs : List Value} {t : TypeId} {cs : Array Value} (h : W.ownsRow base e 1 v m xs) (hg : Blk W g t cs) (hne : e ≠ t) (i : Nat) (u : Value) : (W.setCell ⟨g, i, none⟩ u).ownsRow base e 1 v m xs :=
  h.kept (row := some g) ⟨rfl, rfl, rfl, by simp [World.setCell], fun k _ hk => Below.heap_setCell _ _ _ _ (fun e => hk (by rw [e]))⟩ (.inr (own_ne_blk h hg hne))
theorem ClM.setSeen (h : ClM w W A n c st cp gs seen O oc out K kc k) (j : Nat) : ClM w (W.setCell ⟨gs, j, none⟩ (.bool true)) A n c st cp gs (seen.set j true) O oc out K kc k := by
  have hne : w.heap.size ≠ gs := Blk.ne h.box h.seenB (by decide)
  refine ⟨h.below.setCell h.gsB _, h.box.far hne _, ?_, own_far h.own h.seenB (by decide) _ _, own_far h.stk h.seenB (by decide) _ _, h.sep, h.gsB⟩
  have := h.seenB.set j (.bool true)
  simpa [List.map_set] using this
/-- Something is put behind what reads. -/
theorem ClM.putOut {v' : Value} {x : Int} (h : ClM w W A n c st cp gs seen O oc out K kc k) (hown : W2.ownsRow w.heap.size 3 1 v' (out.length + 1) (i64s out ++ [.int .i64 x]))
    (hg : W.grownBy W2 (Value.slice O out.length oc).ownBlock) (hat : v'.ownBlock = (Value.slice O out.length oc).ownBlock ∨ v'.ownBlock = some W.heap.size) :
    ∃ O' oc', v' = .slice O' (out ++ [x]).length oc' ∧ ClM w W2 A n c st cp gs seen O' oc' (out ++ [x]) K kc k := by
  obtain ⟨O', oc', rfl, _, _⟩ := own_form hown
  have e1 : out.length + 1 = (out ++ [x]).length := by simp
  have e2 : i64s out ++ [Value.int .i64 x] = i64s (out ++ [x]) := by rw [i64s_append]; rfl
  rw [e2] at hown
  refine ⟨O', oc', by rw [e1], ?_⟩
  have hlt := h.own.lt
  have hltk := h.stk.lt
  refine ⟨?_, h.box.grown hg (own_ne_blk h.own h.box (by decide)), h.seenB.grown hg (own_ne_blk h.own h.seenB (by decide)), by rw [← e1]; exact hown, ?_, ?_, h.gsB⟩
  · exact h.below.grown hg h.below.size fun k' hk' => (hlt k' hk').1
  · refine h.stk.kept hg ?_
    rcases h.sep with h0 | h0 | h0
    · rcases hv : (Value.slice K k.length kc).ownBlock with _ | b
      · exact .inl rfl
      · right; rw [h0]; simp
    · exact .inl h0
    · exact .inr fun e => h0 e.symm
  · rcases hv : (Value.slice K k.length kc).ownBlock with _ | b
    · exact .inr (.inl rfl)
    · right; right
      rw [← e1]
      have hb := (hltk b hv).2
      rcases hat with h1 | h1
      · rw [h1]
        rcases h.sep with h0 | h0 | h0
        · rw [h0]; simp
        · rw [hv] at h0; cases h0
        · rw [← hv]; exact h0
      · rw [h1]
        intro e
        injection e with e
        omega
/-- Something is laid on the stack. -/
theorem ClM.push {v' : Value} {x : Int} (h : ClM w W A n c st cp gs seen O oc out K kc k) (hown : W2.ownsRow w.heap.size 3 1 v' (k.length + 1) (i64s k ++ [.int .i64 x]))
    (hg : W.grownBy W2 (Value.slice K k.length kc).ownBlock) (hat : v'.ownBlock = (Value.slice K k.length kc).ownBlock ∨ v'.ownBlock = some W.heap.size) :
    ∃ K' kc', v' = .slice K' (k ++ [x]).length kc' ∧ ClM w W2 A n c st cp gs seen O oc out K' kc' (k ++ [x]) := by
  obtain ⟨K', kc', rfl, _, _⟩ := own_form hown
  have e1 : k.length + 1 = (k ++ [x]).length := by simp
  have e2 : i64s k ++ [Value.int .i64 x] = i64s (k ++ [x]) := by rw [i64s_append]; rfl
  rw [e2] at hown
  refine ⟨K', kc', by rw [e1], ?_⟩
  have hlt := h.stk.lt
  have hlto := h.own.lt
  refine ⟨?_, h.box.grown hg (own_ne_blk h.stk h.box (by decide)), h.seenB.grown hg (own_ne_blk h.stk h.seenB (by decide)), ?_, by rw [← e1]; exact hown, ?_, h.gsB⟩
  · exact h.below.grown hg h.below.size fun k' hk' => (hlt k' hk').1
  · refine h.own.kept hg ?_
    rcases h.sep with h0 | h0 | h0
    · exact .inl h0
    · rcases hv : (Value.slice O out.length oc).ownBlock with _ | b
      · exact .inl rfl
      · right; rw [h0]; simp
    · exact .inr h0
  · rcases hv : (Value.slice O out.length oc).ownBlock with _ | b
    · exact .inl rfl
    · right; right
      rw [← e1]
      have hb := (hlto b hv).2
      rcases hat with h1 | h1
      · rw [h1]
        rcases h.sep with h0 | h0 | h0
        · rw [hv] at h0; cases h0
        · rw [h0]; simp
        · rw [← hv]; exact h0
      · rw [h1]
        intro e
        injection e with e
        omega
end
end Go.Proofs.Ytbhcgjahlfpjoaa
