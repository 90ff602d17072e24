/- What one comes to from two lists: the plain laws of ProgsParts. -/
import Derived.Test.YtbhcgjahlfpjoaaPd3
namespace Go.Proofs.Ytbhcgjahlfpjoaa
open Go.RowKit

/-- Is an instruction come to? -/
def CS.has (s : CS) (q : Int) : Prop := 0 ≤ q ∧ s.seen[q.toNat]? = some true
/-- What is told is what is come to. -/
structure Full (L : List MI) (s : CS) : Prop where
  out : ∀ q, q ∈ s.out ↔ (s.has q ∧ ∃ x, L[q.toNat]? = some x ∧ x.op = 2)
  mt : s.mt = true ↔ ∃ q x, s.has q ∧ L[q.toNat]? = some x ∧ x.op = 1
section
variable {L : List MI} {T : MI → Bool}
theorem CS.has_mark {s : CS} {x : MI} {pc : Int} (h0 : 0 ≤ pc) (hs : s.seen[pc.toNat]? = some false) (q : Int) : (s.mark x pc).has q ↔ s.has q ∨ q = pc := by
  have hlt : pc.toNat < s.seen.length := (List.getElem?_eq_some_iff.1 hs).1
  unfold CS.has CS.mark
  dsimp only
  rw [List.getElem?_set]
  by_cases e : pc.toNat = q.toNat
  · rw [if_pos e]
    constructor
    · rintro ⟨a, _⟩; exact .inr (by omega)
    · intro h
      have hq : q = pc := by
        rcases h with ⟨a, _⟩ | h
        · omega
        · exact h
      exact ⟨by omega, by rw [if_pos hlt]⟩
  · rw [if_neg e]
    constructor
    · exact .inl
    · rintro (h | rfl)
      · exact h
      · exact absurd rfl e
theorem Full.mark {s : CS} (h : Full L s) {x : MI} {pc : Int} (h0 : 0 ≤ pc) (hx : L[pc.toNat]? = some x) (hs : s.seen[pc.toNat]? = some false) : Full L (s.mark x pc) := by
  refine ⟨fun q => ?_, ?_⟩
  · rw [CS.has_mark h0 hs]
    by_cases h2 : x.op = 2
    · simp only [CS.mark, if_pos h2, List.mem_append, List.mem_singleton, h.out q]
      constructor
      · rintro (⟨a, b⟩ | rfl)
        · exact ⟨.inl a, b⟩
        · exact ⟨.inr rfl, x, hx, h2⟩
      · rintro ⟨a | rfl, b⟩
        · exact .inl ⟨a, b⟩
        · exact .inr rfl
    · simp only [CS.mark, if_neg h2, h.out q]
      constructor
      · rintro ⟨a, b⟩; exact ⟨.inl a, b⟩
      · rintro ⟨a | rfl, y, hy, hy2⟩
        · exact ⟨a, y, hy, hy2⟩
        · rw [hx] at hy; cases hy; exact absurd hy2 h2
  · simp only [CS.mark, Bool.or_eq_true, h.mt, beq_iff_eq]
    constructor
    · rintro (⟨q, y, a, b, c⟩ | h1)
      · exact ⟨q, y, (CS.has_mark h0 hs q).2 (.inl a), b, c⟩
      · exact ⟨pc, x, (CS.has_mark h0 hs pc).2 (.inr rfl), hx, h1⟩
    · rintro ⟨q, y, a, b, c⟩
      rcases (CS.has_mark h0 hs q).1 a with a | rfl
      · exact .inl ⟨q, y, a, b, c⟩
      · rw [hx] at b; cases b; exact .inr c
theorem Full.start (n : Nat) : Full L (CS.start n) := by
  have key : ∀ q, ¬ (CS.start n).has q := fun q h => by
    have := h.2
    simp only [CS.start, List.getElem?_replicate] at this
    split at this
    · injection this with this; cases this
    · cases this
  refine ⟨fun q => ⟨fun h => (by cases h), fun h => absurd h.1 (key q)⟩, ⟨fun h => (by cases h), fun ⟨q, _, h, _⟩ => absurd h (key q)⟩⟩
theorem Runs.full (hL : Leads L) {k : List Int} {s e : CS} (h : Runs L T true k s e) : InL L.length k → Full L s → Full L e := by
  induction h with
  | nil s => exact fun _ h => h
  | skip _ _ ih => exact fun hk h => ih (fun q hq => hk q (List.mem_cons_of_mem _ hq)) h
  | @step pc k s e x h1 h2 h3 _ ih =>
    intro hk h
    refine ih (fun q hq => ?_) (h.mark (hk pc (List.mem_cons_self ..)).1 h1 h2)
    rcases List.mem_append.1 hq with hq | hq
    · exact hL.succs (List.mem_of_getElem? h1) q hq
    · exact hk q (List.mem_cons_of_mem _ hq)
/-- Where it ends, all to which it leads are come to. -/
theorem Runs.shut (hL : Leads L) {k : List Int} {s e : CS} (h : Runs L T true k s e) : InL L.length k → (∀ q x, s.has q → L[q.toNat]? = some x → ∀ z ∈ succs T x, s.has z ∨ z ∈ k) →
    (∀ q x, e.has q → L[q.toNat]? = some x → ∀ z ∈ succs T x, e.has z) ∧ (∀ z ∈ k, e.has z) ∧ (∀ q, s.has q → e.has q) := by
  induction h with
  | nil s => exact fun _ h => ⟨fun q x a b z hz => (h q x a b z hz).resolve_right (by simp), (fun z hz => absurd hz (by simp)), fun _ h => h⟩
  | @skip pc k s e hs _ ih =>
    intro hk h
    have h0 : s.has pc := by
      rcases hs with hs | hs
      · exact ⟨(hk pc (List.mem_cons_self ..)).1, hs⟩
      · simp [CS.done] at hs
    obtain ⟨i1, i2, i3⟩ := ih (fun q hq => hk q (List.mem_cons_of_mem _ hq)) fun q x a b z hz => by
      rcases h q x a b z hz with h | h
      · exact .inl h
      · rcases List.mem_cons.1 h with rfl | h
        · exact .inl h0
        · exact .inr h
    refine ⟨i1, fun z hz => ?_, i3⟩
    rcases List.mem_cons.1 hz with rfl | hz
    · exact i3 _ h0
    · exact i2 z hz
  | @step pc k s e x h1 h2 h3 _ ih =>
    intro hk h
    have h0 := (hk pc (List.mem_cons_self ..)).1
    obtain ⟨i1, i2, i3⟩ := ih (fun q hq => by
      rcases List.mem_append.1 hq with hq | hq
      · exact hL.succs (List.mem_of_getElem? h1) q hq
      · exact hk q (List.mem_cons_of_mem _ hq)) fun q y a b z hz => by
        rcases (CS.has_mark h0 h2 q).1 a with a | rfl
        · rcases h q y a b z hz with h | h
          · exact .inl ((CS.has_mark h0 h2 z).2 (.inl h))
          · rcases List.mem_cons.1 h with rfl | h
            · exact .inl ((CS.has_mark h0 h2 _).2 (.inr rfl))
            · exact .inr (List.mem_append_right _ h)
        · rw [h1] at b; cases b
          exact .inr (List.mem_append_left _ hz)
    refine ⟨i1, fun z hz => ?_, fun q hq => i3 q ((CS.has_mark h0 h2 q).2 (.inl hq))⟩
    rcases List.mem_cons.1 hz with rfl | hz
    · exact i3 _ ((CS.has_mark h0 h2 _).2 (.inr rfl))
    · exact i2 z (List.mem_append_right _ hz)
/-- No more is come to than must be. -/
theorem Runs.least (hL : Leads L) {S : Int → Prop} (hS : ∀ q x, S q → L[q.toNat]? = some x → ∀ z ∈ succs T x, S z) {k : List Int} {s e : CS} (h : Runs L T true k s e) : InL L.length k → (∀ z ∈ k, S z) → (∀ q, s.has q → S q) → ∀ q, e.has q → S q := by
  induction h with
  | nil s => exact fun _ _ h => h
  | skip _ _ ih => exact fun hk h => ih (fun q hq => hk q (List.mem_cons_of_mem _ hq)) fun z hz => h z (List.mem_cons_of_mem _ hz)
  | @step pc k s e x h1 h2 h3 _ ih =>
    intro hk h hs
    have h0 := (hk pc (List.mem_cons_self ..)).1
    refine ih (fun q hq => ?_) (fun z hz => ?_) fun q hq => ?_
    · rcases List.mem_append.1 hq with hq | hq
      · exact hL.succs (List.mem_of_getElem? h1) q hq
      · exact hk q (List.mem_cons_of_mem _ hq)
    · rcases List.mem_append.1 hz with hz | hz
      · exact hS pc x (h pc (List.mem_cons_self ..)) h1 z hz
      · exact h z (List.mem_cons_of_mem _ hz)
    · rcases (CS.has_mark h0 h2 q).1 hq with hq | rfl
      · exact hs q hq
      · exact h _ (List.mem_cons_self ..)
theorem start_no (n : Nat) (q : Int) : ¬ (CS.start n).has q := fun h => by
  have := h.2
  simp only [CS.start, List.getElem?_replicate] at this
  split at this
  · injection this with this; cases this
  · cases this
/-- Behind what is come to from the first list: what else is come to from the second. -/
def want (m n : List Int) : List Int := m ++ n.filter fun q => decide (q ∉ m)
theorem perm_of_members {l r : List Int} (hl : l.Nodup) (hr : r.Nodup) (h : ∀ q, q ∈ l ↔ q ∈ r) : l.length = r.length := by
  have h1 : l.Perm r := (List.perm_ext_iff_of_nodup hl hr).2 h
  exact h1.length_eq
theorem Runs.parts (hL : Leads L) {n : Nat} (hln : L.length = n) {a b : List Int} (ha : InL L.length a) (hb : InL L.length b) {e m k : CS} (he : Runs L T true (a ++ b) (CS.start n) e) (hm : Runs L T true a (CS.start n) m) (hk : Runs L T true b (CS.start n) k) :
    e.mt = (m.mt || k.mt) ∧ e.out.length = (want m.out k.out).length ∧ (∀ q ∈ e.out, q ∈ want m.out k.out) ∧ m.out <+: e.out := by
  obtain ⟨f, hf⟩ : ∃ f, Runs L T true b m f := Runs.ends hL _ b m (Nat.le_refl _) (by rw [hm.num.1, hln]; simp [CS.start]) hb
  have hef := he.det (hm.app hf)
  subst hef
  have hst : ∀ q x, (CS.start n).has q → L[q.toNat]? = some x → ∀ z ∈ succs T x, (CS.start n).has z ∨ z ∈ a := fun q x h => absurd h (start_no n q)
  have hst' : ∀ q x, (CS.start n).has q → L[q.toNat]? = some x → ∀ z ∈ succs T x, (CS.start n).has z ∨ z ∈ b := fun q x h => absurd h (start_no n q)
  obtain ⟨m1, m2, _⟩ := hm.shut hL ha hst
  obtain ⟨k1, k2, _⟩ := hk.shut hL hb hst'
  obtain ⟨e1, e2, e3⟩ := hf.shut hL hb fun q x h1 h2 z hz => .inl (m1 q x h1 h2 z hz)
  have hall : ∀ q, e.has q ↔ m.has q ∨ k.has q := fun q => by
    constructor
    · exact hf.least hL (S := fun q => m.has q ∨ k.has q) (fun q x h hx z hz => h.elim (fun h => .inl (m1 q x h hx z hz)) (fun h => .inr (k1 q x h hx z hz))) hb (fun z hz => .inr (k2 z hz)) (fun q h => .inl h) q
    · rintro (h | h)
      · exact e3 q h
      · exact hk.least hL (S := e.has) e1 hb e2 (fun q h => absurd h (start_no n q)) q h
  have fm := hm.full hL ha (Full.start n)
  have fk := hk.full hL hb (Full.start n)
  have fe := hf.full hL hb fm
  have tm := hm.tidy hL ha (Tidy.start L n)
  have tk := hk.tidy hL hb (Tidy.start L n)
  have te := hf.tidy hL hb tm
  have hout : ∀ q, q ∈ e.out ↔ q ∈ want m.out k.out := fun q => by
    unfold want
    rw [fe.out, List.mem_append, List.mem_filter, hall, fk.out]
    simp only [decide_eq_true_eq]
    constructor
    · rintro ⟨h | h, hx⟩
      · exact .inl ((fm.out q).2 ⟨h, hx⟩)
      · by_cases hq : q ∈ m.out
        · exact .inl hq
        · exact .inr ⟨⟨h, hx⟩, hq⟩
    · rintro (h | ⟨⟨h, hx⟩, _⟩)
      · have := (fm.out q).1 h; exact ⟨.inl this.1, this.2⟩
      · exact ⟨.inr h, hx⟩
  have hnd : (want m.out k.out).Nodup := by
    unfold want
    rw [List.nodup_append]
    exact ⟨tm.once, tk.once.filter _, fun x hx y hy => by rintro rfl; have := (List.mem_filter.1 hy).2; rw [decide_eq_true_eq] at this; exact this hx⟩
  refine ⟨?_, perm_of_members te.once hnd hout, fun q hq => (hout q).1 hq, hf.more.1⟩
  have : e.mt = true ↔ (m.mt = true ∨ k.mt = true) := by
    rw [fe.mt, fm.mt, fk.mt]
    constructor
    · rintro ⟨q, x, h, hx, h1⟩
      rcases (hall q).1 h with h | h
      · exact .inl ⟨q, x, h, hx, h1⟩
      · exact .inr ⟨q, x, h, hx, h1⟩
    · rintro (⟨q, x, h, hx, h1⟩ | ⟨q, x, h, hx, h1⟩)
      · exact ⟨q, x, (hall q).2 (.inl h), hx, h1⟩
      · exact ⟨q, x, (hall q).2 (.inr h), hx, h1⟩
  cases hme : e.mt <;> cases hmm : m.mt <;> cases hmk : k.mt <;> simp_all
end
end Go.Proofs.Ytbhcgjahlfpjoaa
