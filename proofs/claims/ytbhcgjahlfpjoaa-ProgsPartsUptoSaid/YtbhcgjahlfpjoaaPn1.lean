/- progs.Next: plain, and the walk. -/
import Derived.Test.YtbhcgjahlfpjoaaPd1
namespace Go.Proofs.Ytbhcgjahlfpjoaa
open Go.RowKit

/-- What an instruction leads to by a rune. -/
def nextS (L : List MI) (c : Int) (s : CS) (pc : Int) : CS :=
  if 0 ≤ pc then
    match L[pc.toNat]? with
    | none => s
    | some x => if x.op = 2 ∧ s.seen[x.out.toNat]? = some false ∧ hasB x.set c = true then ⟨s.seen.set x.out.toNat true, s.out ++ [x.out], s.mt⟩ else s
  else s
def nextL (L : List MI) (c : Int) (l : List Int) (s : CS) : CS := l.foldl (nextS L c) s
theorem nextL_snoc (L : List MI) (c : Int) (l : List Int) (s : CS) (x : Int) : nextL L c (l ++ [x]) s = nextS L c (nextL L c l s) x := by simp [nextL]
theorem nextL_take {L : List MI} {c : Int} {l : List Int} {s : CS} {j : Nat} {x : Int} (h : l[j]? = some x) : nextL L c (l.take (j + 1)) s = nextS L c (nextL L c (l.take j) s) x := by
  rw [List.take_add_one, h]
  exact nextL_snoc L c _ s x
theorem nextS_lo {L : List MI} {c : Int} {s : CS} {pc : Int} (h : ¬ 0 ≤ pc) : nextS L c s pc = s := by unfold nextS; rw [if_neg h]
theorem nextS_hi {L : List MI} {c : Int} {s : CS} {pc : Int} (h : ¬ pc < (L.length : Int)) : nextS L c s pc = s := by
  unfold nextS
  split
  · rw [List.getElem?_eq_none (by omega)]
  · rfl
theorem nextS_no {L : List MI} {c : Int} {s : CS} {q : Nat} {x : MI} (hx : L[q]? = some x) (h : ¬ (x.op = 2 ∧ s.seen[x.out.toNat]? = some false ∧ hasB x.set c = true)) : nextS L c s (q : Int) = s := by
  unfold nextS
  rw [if_pos (by omega), Int.toNat_natCast, hx]
  exact if_neg h
theorem nextS_yes {L : List MI} {c : Int} {s : CS} {q : Nat} {x : MI} (hx : L[q]? = some x) (h : x.op = 2 ∧ s.seen[x.out.toNat]? = some false ∧ hasB x.set c = true) : nextS L c s (q : Int) = ⟨s.seen.set x.out.toNat true, s.out ++ [x.out], s.mt⟩ := by
  unfold nextS
  rw [if_pos (by omega), Int.toNat_natCast, hx]
  exact if_pos h
theorem nextS_num {L : List MI} {c : Int} {s : CS} {pc : Int} : (nextS L c s pc).seen.length = s.seen.length ∧ (nextS L c s pc).out.length + (nextS L c s pc).left ≤ s.out.length + s.left := by
  unfold nextS
  split
  · split
    · exact ⟨rfl, Nat.le_refl _⟩
    · rename_i x hx
      split
      · rename_i h
        have := CS.left_mark (x := ⟨2, 0, 0, none, 0, 0, 0, []⟩) (s := s) (pc := x.out) h.2.1
        unfold CS.mark CS.left at this
        refine ⟨by simp, ?_⟩
        simp only [List.length_append, List.length_cons, List.length_nil, CS.left] at this ⊢
        omega
      · exact ⟨rfl, Nat.le_refl _⟩
  · exact ⟨rfl, Nat.le_refl _⟩
theorem ClM.on {w W W2 : World} {A : Option Addr} {n c : Nat} {st cp : Int} {gs : Nat} {seen : List Bool} {O : Option Addr} {oc : Nat} {out : List Int} {K : Option Addr} {kc : Nat} {k : List Int} (h : ClM w W A n c st cp gs seen O oc out K kc k) (hb : Below W.heap.size W W2) : ClM w W2 A n c st cp gs seen O oc out K kc k := by
  have hg : W.grownBy W2 none := ⟨hb.os, hb.tape, hb.output, hb.size, fun k hk _ => hb.block k hk⟩
  have key : ∀ v : Value, v.ownBlock = none ∨ v.ownBlock ≠ none := fun v => by cases v.ownBlock <;> simp
  exact ⟨h.below.trans (hb.mono h.below.size), h.box.below hb h.box.lt, h.seenB.below hb h.seenB.lt, h.own.kept hg (key _), h.stk.kept hg (key _), h.sep, h.gsB⟩
end Go.Proofs.Ytbhcgjahlfpjoaa
