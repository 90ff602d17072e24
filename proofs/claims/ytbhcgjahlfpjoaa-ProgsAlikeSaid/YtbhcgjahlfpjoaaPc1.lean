/- To which instructions one comes: plain. -/
import Derived.Test.YtbhcgjahlfpjoaaPg5
namespace Go.Proofs.Ytbhcgjahlfpjoaa
open Go.RowKit

/-- What a walk has come to. -/
structure CS where
  seen : List Bool
  out : List Int
  mt : Bool
/-- Where an instruction leads to without reading; T: does its place hold? -/
def succs (T : MI → Bool) (x : MI) : List Int :=
  if x.op = 3 then [x.out, x.arg] else if x.op = 4 then [x.out] else if x.op = 5 then (if T x then [x.out] else []) else []
def CS.mark (s : CS) (x : MI) (pc : Int) : CS := ⟨s.seen.set pc.toNat true, if x.op = 2 then s.out ++ [pc] else s.out, s.mt || x.op == 1⟩
/-- Nothing more is come to. -/
def CS.done (lng : Bool) (s : CS) : Bool := s.mt && !lng
/-- From these instructions, the first one first. -/
inductive Runs (L : List MI) (T : MI → Bool) (lng : Bool) : List Int → CS → CS → Prop
  | nil (s : CS) : Runs L T lng [] s s
  | skip {pc : Int} {k : List Int} {s e : CS} : (s.seen[pc.toNat]? = some true ∨ s.done lng = true) → Runs L T lng k s e → Runs L T lng (pc :: k) s e
  | step {pc : Int} {k : List Int} {s e : CS} (x : MI) : L[pc.toNat]? = some x → s.seen[pc.toNat]? = some false → s.done lng = false → Runs L T lng (succs T x ++ k) (s.mark x pc) e → Runs L T lng (pc :: k) s e

section
variable {L : List MI} {T : MI → Bool} {lng : Bool}
theorem Runs.det {k : List Int} {s a b : CS} (h : Runs L T lng k s a) : Runs L T lng k s b → a = b := by
  induction h with
  | nil s => intro h; cases h; rfl
  | skip hs _ ih =>
    intro h
    cases h with
    | skip _ h' => exact ih h'
    | step x h1 h2 h3 h4 =>
      rcases hs with hs | hs
      · rw [hs] at h2; cases h2
      · rw [hs] at h3; cases h3
  | step x h1 h2 h3 _ ih =>
    intro h
    cases h with
    | skip hs h' =>
      rcases hs with hs | hs
      · rw [hs] at h2; cases h2
      · rw [hs] at h3; cases h3
    | step y g1 g2 g3 g4 =>
      rw [h1] at g1; cases g1
      exact ih g4
theorem Runs.app {k j : List Int} {s m e : CS} (h : Runs L T lng k s m) : Runs L T lng j m e → Runs L T lng (k ++ j) s e := by
  induction h with
  | nil s => intro h; exact h
  | skip hs _ ih => intro h; exact .skip hs (ih h)
  | step x h1 h2 h3 _ ih =>
    intro h
    have := ih h
    rw [List.append_assoc] at this
    exact .step x h1 h2 h3 this
theorem Runs.stuck {s : CS} (h : s.done lng = true) : ∀ k : List Int, Runs L T lng k s s
  | [] => .nil s
  | _ :: k => .skip (.inr h) (Runs.stuck h k)
/-- How many are not come to yet. -/
def CS.left (s : CS) : Nat := s.seen.count false
theorem CS.left_mark {s : CS} {x : MI} {pc : Int} (h : s.seen[pc.toNat]? = some false) : (s.mark x pc).left + 1 = s.left := by
  obtain ⟨hlt, he⟩ := List.getElem?_eq_some_iff.1 h
  have h1 : 0 < s.seen.count false := List.count_pos_iff.2 (he ▸ List.getElem_mem hlt)
  unfold CS.left CS.mark
  dsimp only
  rw [List.count_set (h := hlt), he]
  simp
  omega
theorem CS.len_mark (s : CS) (x : MI) (pc : Int) : (s.mark x pc).seen.length = s.seen.length := by simp [CS.mark]
/-- In which instructions all leads are instructions. -/
def Leads (L : List MI) : Prop := ∀ x ∈ L, (x.op = 3 → 0 ≤ x.arg ∧ x.arg < (L.length : Int)) ∧ ((x.op = 2 ∨ x.op = 3 ∨ x.op = 4 ∨ x.op = 5) → 0 ≤ x.out ∧ x.out < (L.length : Int)) ∧ 1 ≤ x.op ∧ x.op ≤ 6
theorem Leads.of_ok {n : Nat} {st cp : Int} (h : PgOK n st cp L) (hn : L.length = n) : Leads L := by
  intro x hx
  rw [hn]
  have := h.2.2.2.2.2.2.2 x hx
  unfold InstOK at this
  refine ⟨fun h3 => ?_, fun h3 => ?_, ?_, ?_⟩ <;> omega
def InL (n : Nat) (k : List Int) : Prop := ∀ pc ∈ k, 0 ≤ pc ∧ pc < (n : Int)
theorem Leads.succs (h : Leads L) {x : MI} (hx : x ∈ L) : InL L.length (succs T x) := by
  intro pc hp
  obtain ⟨h1, h2, _⟩ := h x hx
  unfold Go.Proofs.Ytbhcgjahlfpjoaa.succs at hp
  split at hp
  · rename_i h3
    simp only [List.mem_cons, List.not_mem_nil, or_false] at hp
    rcases hp with rfl | rfl
    · exact h2 (.inr (.inl h3))
    · exact h1 h3
  · split at hp
    · rename_i h3
      simp only [List.mem_cons, List.not_mem_nil, or_false] at hp
      subst hp; exact h2 (.inr (.inr (.inl h3)))
    · split at hp
      · rename_i h3
        split at hp
        · simp only [List.mem_cons, List.not_mem_nil, or_false] at hp
          subst hp; exact h2 (.inr (.inr (.inr h3)))
        · cases hp
      · cases hp
/-- It comes to an end. -/
theorem Runs.ends (h : Leads L) : ∀ (m : Nat) (k : List Int) (s : CS), 3 * s.left + k.length ≤ m → s.seen.length = L.length → InL L.length k → ∃ e, Runs L T lng k s e
  | _, [], s, _, _, _ => ⟨s, .nil s⟩
  | 0, _ :: _, s, hm, _, _ => by simp at hm
  | m + 1, pc :: k, s, hm, hl, hk => by
    obtain ⟨h0, h1⟩ := hk pc (List.mem_cons_self ..)
    have hlt : pc.toNat < L.length := by omega
    cases hd : s.done lng with
    | true => exact ⟨s, Runs.stuck hd _⟩
    | false =>
      have hs : s.seen[pc.toNat]? = some (s.seen[pc.toNat]'(by omega)) := List.getElem?_eq_getElem _
      cases hb : s.seen[pc.toNat]'(by omega) with
      | true =>
        rw [hb] at hs
        obtain ⟨e, he⟩ := Runs.ends h m k s (by simp only [List.length_cons] at hm; omega) hl fun q hq => hk q (List.mem_cons_of_mem _ hq)
        exact ⟨e, .skip (.inl hs) he⟩
      | false =>
        rw [hb] at hs
        have hx : L[pc.toNat]? = some L[pc.toNat] := List.getElem?_eq_getElem hlt
        have hleft := CS.left_mark (x := L[pc.toNat]) hs
        have hsl : (Go.Proofs.Ytbhcgjahlfpjoaa.succs T L[pc.toNat]).length ≤ 2 := by
          unfold Go.Proofs.Ytbhcgjahlfpjoaa.succs
          repeat' split
          all_goals simp
        obtain ⟨e, he⟩ := Runs.ends h m (Go.Proofs.Ytbhcgjahlfpjoaa.succs T L[pc.toNat] ++ k) (s.mark L[pc.toNat] pc) (by simp only [List.length_append, List.length_cons] at hm ⊢; omega) (by rw [CS.len_mark]; exact hl) fun q hq => by
          rcases List.mem_append.1 hq with hq | hq
          · exact h.succs (List.getElem_mem _) q hq
          · exact hk q (List.mem_cons_of_mem _ hq)
        exact ⟨e, .step _ hx hs hd he⟩
end
end Go.Proofs.Ytbhcgjahlfpjoaa
