/- A scope with two labels, 0 and 1, to which the run jumps back: what holds at each of them bears a number, which every way from label to label lowers. -/
import Derived.ScopeJumps
import Derived.WalkMore
import Derived.Lib.Hide
namespace Go

/-- By a goto: J of the label; else as Q. -/
def Exit.two (J : Nat → Act → World → Prop) (Q : Exit → Act → World → Prop) : Exit → Act → World → Prop
  | .goto l, a, w => J l a w
  | e, a, w => Q e a w

section
variable {P : Program} {a : Act} {w : World} {Q : Exit → Act → World → Prop} {c X0 X1 : Code}

theorem Exit.two_mono {J J' : Nat → Act → World → Prop} (h : ∀ l a w, J l a w → J' l a w) {e : Exit} {a : Act} {w : World} (q : Exit.two J Q e a w) : Exit.two J' Q e a w := by
  cases e with
  | goto l => exact h _ _ _ q
  | normal => exact q
  | exit id => exact q
  | ret => exact q
  | panic ch => exact q
  | outgrown => exact q

theorem wp_skip_seq {X : Code} (h : X.wp P Q a w) : (Code.seq .skip X).wp P Q a w := wp_seq (wp_skip h)
theorem wp_label_seq {l : Nat} {X : Code} (h : X.wp P Q a w) : (Code.seq (.label l) X).wp P Q a w := wp_seq (wp_label h)

theorem wp_scope_two (I : Nat → Nat → Act → World → Prop) (h0 : findLabel c 0 = some (.seq .skip X0)) (h1 : findLabel c 1 = some (.seq .skip X1))
    (pass0 : ∀ n a w, I 0 n a w → ∀ J : Nat → Act → World → Prop, (∀ l n' a' w', l < 2 → n' < n → I l n' a' w' → J l a' w') → (∀ n' a' w', n' < n → I 1 n' a' w' → X1.wp P (Exit.two J Q) a' w') → X0.wp P (Exit.two J Q) a w)
    (pass1 : ∀ n a w, I 1 n a w → ∀ J : Nat → Act → World → Prop, (∀ l n' a' w', l < 2 → n' < n → I l n' a' w' → J l a' w') → X1.wp P (Exit.two J Q) a w)
    (first : ∀ J : Nat → Act → World → Prop, (∀ n a w, I 0 n a w → X0.wp P (Exit.two J Q) a w) → c.wp P (Exit.two J Q) a w) : (Code.scope c).wp P Q a w := by
  have p1 : ∀ n a w, I 1 n a w → X1.wp P (Exit.two (fun l a' w' => l < 2 ∧ ∃ n', n' < n ∧ I l n' a' w') Q) a w := fun n a w h =>
    pass1 n a w h _ fun l n' a' w' hl hn h' => ⟨hl, n', hn, h'⟩
  have p0 : ∀ n a w, I 0 n a w → X0.wp P (Exit.two (fun l a' w' => l < 2 ∧ ∃ n', n' < n ∧ I l n' a' w') Q) a w := fun n a w h =>
    pass0 n a w h _ (fun l n' a' w' hl hn h' => ⟨hl, n', hn, h'⟩) fun n' a' w' hn h' =>
      wp_mono (p1 n' a' w' h') fun e a2 w2 q => Exit.two_mono (fun l a3 w3 ⟨hl, k, hk, h3⟩ => ⟨hl, k, Nat.lt_trans hk hn, h3⟩) q
  have f : c.wp P (Exit.two (fun l a' w' => l < 2 ∧ ∃ n', I l n' a' w') Q) a w := first _ fun n a w h =>
    wp_mono (p0 n a w h) fun e a2 w2 q => Exit.two_mono (fun l a3 w3 ⟨hl, k, _, h3⟩ => ⟨hl, k, h3⟩) q
  have rest : ∀ l, l < 2 → ∃ X, findLabel c l = some X ∧ ∀ n a w, I l n a w → X.wp P (Exit.two (fun l a' w' => l < 2 ∧ ∃ n', n' < n ∧ I l n' a' w') Q) a w := by
    intro l hl
    rcases (show l = 0 ∨ l = 1 by omega) with rfl | rfl
    · exact ⟨_, h0, fun n a w h => wp_skip_seq (p0 n a w h)⟩
    · exact ⟨_, h1, fun n a w h => wp_skip_seq (p1 n a w h)⟩
  intro b k cs
  -- from any label on
  have key : ∀ n l a w, l < 2 → I l n a w → ∃ X e a' w', findLabel c l = some X ∧ Q e a' w' ∧ Arrives P (lone (b.at a (.code X :: .inScope c :: k)) cs w) b k cs e a' w' := by
    intro n
    induction n using Nat.strongRecOn with
    | _ n ih =>
      intro l a w hl hI
      obtain ⟨X, hX, hwp⟩ := rest l hl
      obtain ⟨e, a1, w1, hq, harr⟩ := hwp n a w hI b (.inScope c :: k) cs
      cases e with
      | normal => exact ⟨X, .normal, a1, w1, hX, hq, Steps.trans harr (.one step_inScope)⟩
      | exit id => exact ⟨X, .exit id, a1, w1, hX, hq, fun k' hk => harr k' (by simp [exitTo, hk])⟩
      | goto l' =>
        obtain ⟨hl', n', hn', hI'⟩ := hq
        obtain ⟨X', e2, a2, w2, hX', hq2, harr2⟩ := ih n' hn' l' a1 w1 hl' hI'
        exact ⟨X, e2, a2, w2, hX, hq2, .of_steps (harr _ (by simp [gotoIn, hX'])) harr2⟩
      | ret => exact ⟨X, _, a1, w1, hX, hq, harr⟩
      | panic ch => exact ⟨X, _, a1, w1, hX, hq, harr⟩
      | outgrown => exact ⟨X, _, a1, w1, hX, hq, harr⟩
  obtain ⟨e, a1, w1, hq, harr⟩ := f b (.inScope c :: k) cs
  cases e with
  | normal => exact ⟨.normal, a1, w1, hq, .head step_scope (Steps.trans harr (.one step_inScope))⟩
  | exit id => exact ⟨.exit id, a1, w1, hq, fun k' hk => .head step_scope (harr k' (by simp [exitTo, hk]))⟩
  | goto l' =>
    obtain ⟨hl', n', hI'⟩ := hq
    obtain ⟨X', e2, a2, w2, hX', hq2, harr2⟩ := key n' l' a1 w1 hl' hI'
    exact ⟨e2, a2, w2, hq2, .of_steps (.head step_scope (harr _ (by simp [gotoIn, hX']))) harr2⟩
  | ret => exact ⟨_, a1, w1, hq, .of_steps (.one step_scope) harr⟩
  | panic ch => exact ⟨_, a1, w1, hq, .of_steps (.one step_scope) harr⟩
  | outgrown => exact ⟨_, a1, w1, hq, .of_steps (.one step_scope) harr⟩
end
end Go
