/- What one comes to: the plain laws of ProgsTwice. -/
import Derived.Test.YtbhcgjahlfpjoaaPc1
namespace Go.Proofs.Ytbhcgjahlfpjoaa
open Go.RowKit

section
variable {L : List MI} {T : MI → Bool} {lng : Bool}
theorem Runs.more {k : List Int} {s e : CS} (h : Runs L T lng k s e) : s.out <+: e.out ∧ (s.mt = true → e.mt = true) := by
  induction h with
  | nil s => exact ⟨List.prefix_refl _, id⟩
  | skip _ _ ih => exact ih
  | @step pc k s e x h1 h2 h3 _ ih =>
    refine ⟨List.IsPrefix.trans ?_ ih.1, fun hm => ih.2 (by simp [CS.mark, hm])⟩
    unfold CS.mark
    dsimp only
    split
    · exact List.prefix_append _ _
    · exact List.prefix_refl _
/-- With longest one comes to no less, and to a match just where one does without. -/
theorem Runs.longer {k : List Int} {s e : CS} (h : Runs L T false k s e) : ∀ {e' : CS}, Runs L T true k s e' → e.out <+: e'.out ∧ e.mt = e'.mt ∧ (e.mt = false → e'.out = e.out) := by
  induction h with
  | nil s => intro e' h'; cases h'; exact ⟨List.prefix_refl _, rfl, fun _ => rfl⟩
  | @skip pc k s e hs hr ih =>
    intro e' h'
    rcases hs with hs | hs
    · cases h' with
      | skip _ h2 => exact ih h2
      | step x _ h2 _ _ => rw [hs] at h2; cases h2
    · obtain rfl : e = s := hr.det (Runs.stuck hs k)
      have hm : e.mt = true := by simpa [CS.done] using hs
      obtain ⟨h1, h2⟩ := h'.more
      exact ⟨h1, by rw [hm, h2 hm], fun h => by rw [hm] at h; cases h⟩
  | @step pc k s e x h1 h2 h3 _ ih =>
    intro e' h'
    cases h' with
    | skip hs _ =>
      rcases hs with hs | hs
      · rw [h2] at hs; cases hs
      · simp [CS.done] at hs
    | step y g1 _ _ g4 =>
      rw [h1] at g1
      cases g1
      exact ih g4
/-- What is come to: instructions that read, each once. -/
structure Tidy (L : List MI) (s : CS) : Prop where
  reads : ∀ pc ∈ s.out, 0 ≤ pc ∧ s.seen[pc.toNat]? = some true ∧ ∃ x, L[pc.toNat]? = some x ∧ x.op = 2
  once : s.out.Nodup
theorem Tidy.mark {s : CS} (h : Tidy L s) {x : MI} {pc : Int} (h0 : 0 ≤ pc) (hx : L[pc.toNat]? = some x) (hs : s.seen[pc.toNat]? = some false) : Tidy L (s.mark x pc) := by
  have hlt : pc.toNat < s.seen.length := (List.getElem?_eq_some_iff.1 hs).1
  have keep : ∀ q ∈ s.out, 0 ≤ q ∧ (s.seen.set pc.toNat true)[q.toNat]? = some true ∧ ∃ x, L[q.toNat]? = some x ∧ x.op = 2 := fun q hq => by
    obtain ⟨a, b, c⟩ := h.reads q hq
    refine ⟨a, ?_, c⟩
    rw [List.getElem?_set]
    split
    · first | rfl | (rw [if_pos (by omega)])
    · exact b
  have hnew : pc ∉ s.out := fun hq => by
    have := (h.reads pc hq).2.1
    rw [hs] at this
    cases this
  unfold CS.mark
  by_cases h2 : x.op = 2
  · refine ⟨fun q hq => ?_, ?_⟩
    · simp only [if_pos h2] at hq
      rcases List.mem_append.1 hq with hq | hq
      · exact keep q hq
      · rw [List.mem_singleton] at hq
        subst hq
        exact ⟨h0, by simp [hlt], x, hx, h2⟩
    · simp only [if_pos h2]
      rw [List.nodup_append]
      exact ⟨h.once, by simp, fun a ha b hb => by rw [List.mem_singleton] at hb; subst hb; rintro rfl; exact hnew ha⟩
  · refine ⟨fun q hq => ?_, ?_⟩
    · simp only [if_neg h2] at hq
      exact keep q hq
    · simp only [if_neg h2]
      exact h.once
theorem Runs.tidy (hL : Leads L) {k : List Int} {s e : CS} (h : Runs L T lng k s e) : InL L.length k → Tidy L s → Tidy L e := by
  induction h with
  | nil s => exact fun _ h => h
  | skip _ _ ih => exact fun hk h => ih (fun q hq => hk q (List.mem_cons_of_mem _ hq)) h
  | @step pc k s e x h1 h2 h3 _ ih =>
    intro hk h
    refine ih (fun q hq => ?_) (h.mark (hk pc (List.mem_cons_self ..)).1 h1 h2)
    rcases List.mem_append.1 hq with hq | hq
    · exact hL.succs (List.mem_of_getElem? h1) q hq
    · exact hk q (List.mem_cons_of_mem _ hq)
/-- Those that read, each once, are come to again, in order. -/
theorem Runs.again : ∀ (l : List Int) (s : CS), (∀ pc ∈ l, 0 ≤ pc ∧ s.seen[pc.toNat]? = some false ∧ ∃ x, L[pc.toNat]? = some x ∧ x.op = 2) → l.Nodup → s.mt = false → ∃ e, Runs L T lng l s e ∧ e.out = s.out ++ l ∧ e.mt = false
  | [], s, _, _, hm => ⟨s, .nil s, by simp, hm⟩
  | pc :: l, s, h, hn, hm => by
    obtain ⟨h0, h1, x, h2, h3⟩ := h pc (List.mem_cons_self ..)
    have hn' := List.nodup_cons.1 hn
    have hd : s.done lng = false := by simp [CS.done, hm]
    have hsu : succs T x = [] := by simp [succs, h3]
    obtain ⟨e, he, ho, hem⟩ := Runs.again l (s.mark x pc) (fun q hq => by
      obtain ⟨a, b, c⟩ := h q (List.mem_cons_of_mem _ hq)
      refine ⟨a, ?_, c⟩
      have hne : pc.toNat ≠ q.toNat := fun e => hn'.1 (by rw [show pc = q by omega]; exact hq)
      simp only [CS.mark]
      rw [List.getElem?_set, if_neg hne]
      exact b) hn'.2 (by simp [CS.mark, hm, h3])
    refine ⟨e, .step x h2 h1 hd (by rw [hsu]; exact he), ?_, hem⟩
    rw [ho]
    simp [CS.mark, h3]
end
end Go.Proofs.Ytbhcgjahlfpjoaa
