/- Trees that are built: where they lie. Trees turned: plain. Trees turned: plain: what a turned tree may fit. Trees turned: plain: a turned tree is right. Trees turned: plain: the weight of a turned tree; it is right. Trees that are built: the row of the kids. Trees that are built: the state of a builder: the row of the kids, and the ranges. -/
import Derived.Test.YtbhcgjahlfpjoaaQ18
import Derived.Test.YtbhcgjahlfpjoaaQ29
import Derived.Test.YtbhcgjahlfpjoaaHeld
namespace Go.Proofs.Ytbhcgjahlfpjoaa
open Go.RowKit

/-- A tree in memory, all that it reads in blocks of ok. -/
inductive TOk (w : World) (ok : Nat → Prop) : Tr → TA → Prop
  | mk {t : Tr} {a : TA} (ka : Nat → TA) (hset : RgIn w a.sA a.sn a.sc t.set) (hsok : 0 < a.sn → ∀ p, a.sA = some p → ok p.block) (hlen : t.kids.length = a.kn) (hle : a.kn ≤ a.kc) (hmax : a.kc ≤ maxLen) (hnil : a.kA = none → a.kn = 0) (hname : t.name.size ≤ maxLen) (hfit : a.sn ≤ 17592186043904)
      (hrow : 0 < a.kn → ∃ b o, a.kA = some ⟨b, o, none⟩ ∧ b < w.heap.size ∧ ok b ∧ ∀ (i : Nat) (k : Tr), t.kids[i]? = some k → ∀ (j : Nat) (v : Value), (k.cells (ka i))[j]? = some v → w.cell? ⟨b, o + (i * 10 + j), none⟩ = some v)
      (hkids : ∀ (i : Nat) (k : Tr), t.kids[i]? = some k → TOk w ok k (ka i)) : TOk w ok t a
section
variable {w w' : World} {ok ok' : Nat → Prop} {t : Tr} {a : TA}
theorem TOk.tin (h : TOk w ok t a) : TIn w t a := by
  induction h with
  | mk ka hset _ hlen hle hmax hnil hname hfit hrow _ ih =>
    refine .mk ka hset hlen hle hmax hnil hname hfit (fun hp => ?_) ih
    obtain ⟨b, o, hA, hlt, _, hc⟩ := hrow hp
    exact ⟨b, o, hA, hlt, hc⟩
theorem TIn.tok (h : TIn w t a) : TOk w (fun b => b < w.heap.size) t a := by
  induction h with
  | mk ka hset hlen hle hmax hnil hname hfit hrow _ ih =>
    refine .mk ka hset (fun hp p he => ?_) hlen hle hmax hnil hname hfit (fun hp => ?_) ih
    · obtain ⟨b, o, hA, _, hlt, _⟩ := hset.rd (by rw [rgCells_length, hset.len]; omega)
      rw [hA] at he
      injection he with he
      subst he
      exact hlt
    · obtain ⟨b, o, hA, hlt, hc⟩ := hrow hp
      exact ⟨b, o, hA, hlt, hlt, hc⟩
theorem TOk.mono (h : TOk w ok t a) (hm : ∀ b, b < w.heap.size → ok b → ok' b) : TOk w ok' t a := by
  induction h with
  | mk ka hset hsok hlen hle hmax hnil hname hfit hrow _ ih =>
    refine .mk ka hset (fun hp p he => ?_) hlen hle hmax hnil hname hfit (fun hp => ?_) ih
    · obtain ⟨b, o, hA, _, hlt, _⟩ := hset.rd (by rw [rgCells_length, hset.len]; omega)
      have := hsok hp p he
      rw [hA] at he
      injection he with he
      subst he
      exact hm _ hlt this
    · obtain ⟨b, o, hA, hlt, hok, hc⟩ := hrow hp
      exact ⟨b, o, hA, hlt, hm _ hlt hok, hc⟩
/-- It stays where its blocks stay. -/
theorem TOk.keep (h : TOk w ok t a) (hk : ∀ b, ok b → b < w.heap.size → w'.heap[b]? = w.heap[b]?) (hs : w.heap.size ≤ w'.heap.size) : TOk w' ok t a := by
  induction h with
  | mk ka hset hsok hlen hle hmax hnil hname hfit hrow _ ih =>
    have hcell : ∀ (b o : Nat), ok b → b < w.heap.size → w'.cell? ⟨b, o, none⟩ = w.cell? ⟨b, o, none⟩ := fun b o h1 h2 => by
      unfold World.cell?
      dsimp only
      rw [hk b h1 h2]
    refine .mk ka ⟨fun hp => ?_, hset.len, hset.le, hset.max, hset.nil, hset.fits⟩ hsok hlen hle hmax hnil hname hfit (fun hp => ?_) ih
    · obtain ⟨b, o, hA, h0, hlt, hc⟩ := hset.rd hp
      have hok := hsok (by rw [rgCells_length, hset.len] at hp; omega) _ hA
      exact ⟨b, o, hA, h0, Nat.lt_of_lt_of_le hlt hs, fun j u hj => (hcell b (o + j) hok hlt).trans (hc j u hj)⟩
    · obtain ⟨b, o, hA, hlt, hok, hc⟩ := hrow hp
      exact ⟨b, o, hA, Nat.lt_of_lt_of_le hlt hs, hok, fun i k hk' j v hv => (hcell b _ hok hlt).trans (hc i k hk' j v hv)⟩
end
end Go.Proofs.Ytbhcgjahlfpjoaa
namespace Go.Proofs.Ytbhcgjahlfpjoaa
open Go.RowKit

/-- A place turned. -/
def turnAt (a : Int) : Int := if a = 1 then 2 else if a = 2 then 1 else if a = 4 then 8 else if a = 8 then 4 else a
theorem turnAt_twice (a : Int) : turnAt (turnAt a) = a := by
  unfold turnAt
  repeat' split
  all_goals omega
theorem turnAt_mem {a : Int} (h : a ∈ AtT) : turnAt a ∈ AtT := by
  simp only [AtT, List.mem_cons, List.not_mem_nil, or_false] at h ⊢
  unfold turnAt
  rcases h with rfl | rfl | rfl | rfl | rfl | rfl <;> simp
theorem turnAt_zero : turnAt 0 = 0 := rfl
mutual
/-- A right tree, turned. -/
def Tr.turn : Tr → Tr
  | ⟨op, l, rune, set, at_, cap, name, mn, mx, lzy⟩ => if op = 6 then (Tr.turnL l).headD ⟨op, [], rune, set, at_, cap, name, mn, mx, lzy⟩ else ⟨op, if op = 11 then (Tr.turnL l).reverse else Tr.turnL l, rune, set, turnAt at_, cap, name, mn, mx, lzy⟩
def Tr.turnL : List Tr → List Tr
  | [] => []
  | k :: l => Tr.turn k :: Tr.turnL l
end
mutual
/-- A tree without its groups. -/
def Tr.bare : Tr → Tr
  | ⟨op, l, rune, set, at_, cap, name, mn, mx, lzy⟩ => if op = 6 then (Tr.bareL l).headD ⟨op, [], rune, set, at_, cap, name, mn, mx, lzy⟩ else ⟨op, Tr.bareL l, rune, set, at_, cap, name, mn, mx, lzy⟩
def Tr.bareL : List Tr → List Tr
  | [] => []
  | k :: l => Tr.bare k :: Tr.bareL l
end
theorem Tr.turnL_map : ∀ l : List Tr, Tr.turnL l = l.map Tr.turn
  | [] => rfl
  | k :: l => by rw [Tr.turnL, Tr.turnL_map l]; rfl
theorem Tr.bareL_map : ∀ l : List Tr, Tr.bareL l = l.map Tr.bare
  | [] => rfl
  | k :: l => by rw [Tr.bareL, Tr.bareL_map l]; rfl
theorem Tr.turn_eq (t : Tr) : t.turn = if t.op = 6 then (t.kids.map Tr.turn).headD ⟨t.op, [], t.rune, t.set, t.at_, t.cap, t.name, t.mn, t.mx, t.lzy⟩ else ⟨t.op, if t.op = 11 then (t.kids.map Tr.turn).reverse else t.kids.map Tr.turn, t.rune, t.set, turnAt t.at_, t.cap, t.name, t.mn, t.mx, t.lzy⟩ := by
  cases t; rw [Tr.turn, Tr.turnL_map]
theorem Tr.bare_eq (t : Tr) : t.bare = if t.op = 6 then (t.kids.map Tr.bare).headD ⟨t.op, [], t.rune, t.set, t.at_, t.cap, t.name, t.mn, t.mx, t.lzy⟩ else ⟨t.op, t.kids.map Tr.bare, t.rune, t.set, t.at_, t.cap, t.name, t.mn, t.mx, t.lzy⟩ := by
  cases t; rw [Tr.bare, Tr.bareL_map]
/-- Has each group one kid? -/
def OneP (t : Tr) : Prop := ∀ q ∈ t.all, q.op = 6 → q.kids.length = 1
theorem RightP.one {t : Tr} (h : RightP t) : OneP t := fun q hq h6 => (h.2.2.1 q hq).kids1 (by omega) (by omega)
theorem OneP.kid {t k : Tr} (h : OneP t) (hk : k ∈ t.kids) : OneP k := fun q hq => by
  obtain ⟨i, hi⟩ := List.mem_iff_getElem?.1 hk
  exact h q (by rw [Tr.all_eq]; exact List.mem_cons_of_mem _ (allL_mem hi hq))
theorem OneP.self {t : Tr} (h : OneP t) (h6 : t.op = 6) : ∃ k, t.kids = [k] := by
  have := h t (by rw [Tr.all_eq]; exact List.mem_cons_self ..) h6
  match hl : t.kids, this with
  | [k], _ => exact ⟨k, rfl⟩
/-- No group is in a turned tree at the top. -/
theorem Tr.turn_op {t : Tr} (h : OneP t) : t.turn.op ≠ 6 := by
  induction t using Tr.ind with
  | h t ih =>
    rw [Tr.turn_eq]
    by_cases h6 : t.op = 6
    · obtain ⟨k, hk⟩ := h.self h6
      rw [if_pos h6, hk]
      exact ih k (by rw [hk]; simp) (h.kid (by rw [hk]; simp))
    · rw [if_neg h6]; exact h6
/-- Turned twice a tree is itself without its groups. -/
theorem Tr.turn_twice {t : Tr} (h : OneP t) : t.turn.turn = t.bare := by
  induction t using Tr.ind with
  | h t ih =>
    rw [Tr.turn_eq t, Tr.bare_eq t]
    by_cases h6 : t.op = 6
    · obtain ⟨k, hk⟩ := h.self h6
      rw [if_pos h6, if_pos h6, hk]
      exact ih k (by rw [hk]; simp) (h.kid (by rw [hk]; simp))
    · rw [if_neg h6, if_neg h6, Tr.turn_eq, if_neg h6]
      have hm : (t.kids.map Tr.turn).map Tr.turn = t.kids.map Tr.bare := by
        rw [List.map_map]
        exact List.map_congr_left fun k hk => ih k hk (h.kid hk)
      by_cases h11 : t.op = 11
      · simp only [h11, if_true, List.map_reverse, List.reverse_reverse, turnAt_twice, hm]
      · simp only [h11, if_false, turnAt_twice, hm]
end Go.Proofs.Ytbhcgjahlfpjoaa
namespace Go.Proofs.Ytbhcgjahlfpjoaa
open Go.RowKit

theorem empAll_all (l : List Tr) : Tr.empAll l = l.all Tr.emp := by
  induction l with
  | nil => rfl
  | cons k l ih => rw [Tr.empAll, List.all_cons, ih]
theorem Tr.turn_emp {t : Tr} (h : OneP t) : t.turn.emp = t.emp := by
  induction t using Tr.ind with
  | h t ih =>
    rw [Tr.turn_eq]
    by_cases h6 : t.op = 6
    · obtain ⟨k, hk⟩ := h.self h6
      rw [if_pos h6, t.emp_eq, if_neg (by omega), if_pos (by omega), hk, Tr.empAll, Tr.empAll, Bool.and_true]
      exact ih k (by rw [hk]; simp) (h.kid (by rw [hk]; simp))
    · rw [if_neg h6, Tr.emp_eq, t.emp_eq]
      have hall : Tr.empAll (t.kids.map Tr.turn) = Tr.empAll t.kids := by
        rw [empAll_all, empAll_all, List.all_map]
        rw [Bool.eq_iff_iff, List.all_eq_true, List.all_eq_true]
        exact ⟨fun hh k hk => by rw [← ih k hk (h.kid hk)]; exact hh k hk, fun hh k hk => by show k.turn.emp = true; rw [ih k hk (h.kid hk)]; exact hh k hk⟩
      have hany : Tr.empAny (t.kids.map Tr.turn) = Tr.empAny t.kids := by
        rw [Tr.empAny_any, Tr.empAny_any, List.any_map]
        rw [Bool.eq_iff_iff, List.any_eq_true, List.any_eq_true]
        exact ⟨fun ⟨k, hk, he⟩ => ⟨k, hk, by rw [← ih k hk (h.kid hk)]; exact he⟩, fun ⟨k, hk, he⟩ => ⟨k, hk, by show k.turn.emp = true; rw [ih k hk (h.kid hk)]; exact he⟩⟩
      have hrev : Tr.empAll (t.kids.map Tr.turn).reverse = Tr.empAll t.kids := by
        rw [empAll_all, List.all_reverse, ← empAll_all, hall]
      dsimp only
      by_cases h11 : t.op = 11
      · simp [h11, hrev]
      · simp only [h11, if_false, hall, hany]
theorem allL_all (l : List Tr) (P : Tr → Prop) : (∀ q ∈ Tr.allL l, P q) ↔ ∀ k ∈ l, ∀ q ∈ k.all, P q := by
  induction l with
  | nil => simp [Tr.allL]
  | cons k l ih =>
    rw [Tr.allL]
    constructor
    · intro h x hx q hq
      rcases List.mem_cons.1 hx with rfl | hx
      · exact h q (List.mem_append_left _ hq)
      · exact (ih.1 fun q hq => h q (List.mem_append_right _ hq)) x hx q hq
    · intro h q hq
      rcases List.mem_append.1 hq with hq | hq
      · exact h k (List.mem_cons_self ..) q hq
      · exact ih.2 (fun x hx => h x (List.mem_cons_of_mem _ hx)) q hq
theorem Tr.turn_still {t : Tr} (h : OneP t) : StillP t.turn ↔ StillP t := by
  induction t using Tr.ind with
  | h t ih =>
    rw [stillP_iff (t := t), allL_all, Tr.turn_eq]
    by_cases h6 : t.op = 6
    · obtain ⟨k, hk⟩ := h.self h6
      rw [if_pos h6, hk]
      have h1 := ih k (by rw [hk]; simp) (h.kid (by rw [hk]; simp))
      refine h1.trans ⟨fun hh => ⟨⟨by omega, by omega⟩, fun x hx => by rw [List.mem_singleton] at hx; subst hx; exact hh⟩, fun hh => hh.2 k (by simp)⟩
    · rw [if_neg h6, stillP_iff, allL_all]
      dsimp only
      have hm : (∀ k ∈ (if t.op = 11 then (t.kids.map Tr.turn).reverse else t.kids.map Tr.turn), ∀ q ∈ k.all, StillO q) ↔ ∀ k ∈ t.kids, ∀ q ∈ k.all, StillO q := by
        have e : ∀ k, k ∈ (if t.op = 11 then (t.kids.map Tr.turn).reverse else t.kids.map Tr.turn) ↔ k ∈ t.kids.map Tr.turn := fun k => by split <;> simp
        constructor
        · intro hh k hk
          exact (ih k hk (h.kid hk)).1 (hh k.turn ((e _).2 (List.mem_map.2 ⟨k, hk, rfl⟩)))
        · intro hh k hk
          obtain ⟨x, hx, rfl⟩ := List.mem_map.1 ((e k).1 hk)
          exact (ih x hx (h.kid hx)).2 (hh x hx)
      rw [hm]
      exact Iff.rfl
end Go.Proofs.Ytbhcgjahlfpjoaa
namespace Go.Proofs.Ytbhcgjahlfpjoaa
open Go.RowKit

theorem Tr.depths_leT {l : List Tr} {n : Nat} : Tr.depths l ≤ n ↔ ∀ k ∈ l, k.depth ≤ n := by
  induction l with
  | nil => simp [Tr.depths]
  | cons k l ih => rw [Tr.depths, Nat.max_le, ih]; simp
theorem Tr.turn_depth {t : Tr} (h : OneP t) : t.turn.depth ≤ t.depth := by
  induction t using Tr.ind with
  | h t ih =>
    rw [Tr.turn_eq, t.depth_eq]
    by_cases h6 : t.op = 6
    · obtain ⟨k, hk⟩ := h.self h6
      rw [if_pos h6, hk]
      have h1 := ih k (by rw [hk]; simp) (h.kid (by rw [hk]; simp))
      have h2 : Tr.depths [k] = k.depth := Tr.depths_one k
      show k.turn.depth ≤ _
      omega
    · rw [if_neg h6, Tr.depth_eq]
      dsimp only
      have : Tr.depths (if t.op = 11 then (t.kids.map Tr.turn).reverse else t.kids.map Tr.turn) ≤ Tr.depths t.kids := by
        refine Tr.depths_leT.2 fun k hk => ?_
        have hk' : k ∈ t.kids.map Tr.turn := by split at hk <;> simpa using hk
        obtain ⟨x, hx, rfl⟩ := List.mem_map.1 hk'
        exact Nat.le_trans (ih x hx (h.kid hx)) (Tr.depths_leT.1 (Nat.le_refl _) x hx)
      omega
theorem Tr.turn_oks {t : Tr} (h : OneP t) (ho : OksP t) : ∀ q ∈ t.turn.all, OkP q ∧ q.op ≠ 6 := by
  induction t using Tr.ind with
  | h t ih =>
    rw [Tr.turn_eq]
    by_cases h6 : t.op = 6
    · obtain ⟨k, hk⟩ := h.self h6
      rw [if_pos h6, hk]
      exact ih k (by rw [hk]; simp) (h.kid (by rw [hk]; simp)) (ho.kid (by rw [hk]; simp))
    · rw [if_neg h6, Tr.all_eq]
      intro q hq
      rcases List.mem_cons.1 hq with rfl | hq
      · have hs := ho.self
        have hl : (if t.op = 11 then (t.kids.map Tr.turn).reverse else t.kids.map Tr.turn).length = t.kids.length := by split <;> simp
        refine ⟨?_, h6⟩
        refine { op := hs.op, rune := hs.rune, set := hs.set, at_ := fun h5 => ?_, cap := hs.cap, name := hs.name, mn := hs.mn, mx := hs.mx, lzy := hs.lzy, rune3 := hs.rune3, set4 := hs.set4, at5 := fun h5 => turnAt_mem (hs.at5 h5), name6 := hs.name6, rep10 := hs.rep10, kids1 := fun a b => hl.trans (hs.kids1 a b), kids12 := fun a => by rw [hl]; exact hs.kids12 a, kids0 := fun a => hl.trans (hs.kids0 a) }
        show turnAt t.at_ = 0
        rw [hs.at_ h5]; rfl
      · dsimp only at hq
        refine (allL_all _ (fun q => OkP q ∧ q.op ≠ 6)).2 (fun k hk => ?_) q hq
        have hk' : k ∈ t.kids.map Tr.turn := by split at hk <;> simpa using hk
        obtain ⟨x, hx, rfl⟩ := List.mem_map.1 hk'
        exact ih x hx (h.kid hx) (ho.kid hx)
theorem Tr.turn_grp {t : Tr} (h : OneP t) (ho : OksP t) : grp t.turn.all = [] := by
  refine List.filter_eq_nil_iff.2 fun q hq => ?_
  simpa using (Tr.turn_oks h ho q hq).2
end Go.Proofs.Ytbhcgjahlfpjoaa
namespace Go.Proofs.Ytbhcgjahlfpjoaa
open Go.RowKit

/-- The sum of weights. -/
def wsum (l : List Tr) : Int := (l.map Tr.weight).foldr (· + ·) 0
theorem wsum_cons (k : Tr) (l : List Tr) : wsum (k :: l) = k.weight + wsum l := rfl
theorem wsum_app (a b : List Tr) : wsum (a ++ b) = wsum a + wsum b := by
  induction a with
  | nil => simp [wsum]
  | cons k a ih => rw [List.cons_append, wsum_cons, wsum_cons, ih]; omega
theorem wsum_rev (l : List Tr) : wsum l.reverse = wsum l := by
  induction l with
  | nil => rfl
  | cons k l ih => rw [List.reverse_cons, wsum_app, ih, wsum_cons, wsum_cons]; simp [wsum]; omega
theorem weights_sum : ∀ (l : List Tr) (n : Int), (∀ k ∈ l, 0 ≤ k.weight) → n ≤ 4001 → Tr.weights l n = min (n + wsum l) 4001 ∧ 0 ≤ wsum l
  | [], n, _, hn => by
    have e : wsum [] = 0 := rfl
    rw [Tr.weights, e]; omega
  | k :: l, n, h, hn => by
    have h0 := h k (List.mem_cons_self ..)
    obtain ⟨h1, h2⟩ := weights_sum l (min (n + k.weight) 4001) (fun x hx => h x (List.mem_cons_of_mem _ hx)) (by omega)
    rw [Tr.weights, h1, wsum_cons]
    omega
theorem Tr.weight_nonneg (t : Tr) : 0 ≤ t.weight := by
  induction t using Tr.ind with
  | h t ih =>
    obtain ⟨h1, h2⟩ := weights_sum t.kids 0 ih (by omega)
    rw [Tr.weight_eq, h1]
    exact (wOf_range (by omega) (by omega)).1
theorem wOf_mono {op n m len mn mx : Int} (h0 : 0 ≤ n) (h : n ≤ m) : wOf op n len mn mx ≤ wOf op m len mn mx := by
  unfold wOf
  have hk : min (max mn (max mx 1)) 4001 * n ≤ min (max mn (max mx 1)) 4001 * m := Int.mul_le_mul_of_nonneg_left h (by omega)
  repeat' split
  all_goals omega
theorem Tr.turn_weight {t : Tr} (h : OneP t) : t.turn.weight ≤ t.weight := by
  induction t using Tr.ind with
  | h t ih =>
    rw [Tr.turn_eq]
    obtain ⟨h1, h2⟩ := weights_sum t.kids 0 (fun k _ => k.weight_nonneg) (by omega)
    by_cases h6 : t.op = 6
    · obtain ⟨k, hk⟩ := h.self h6
      rw [if_pos h6, hk]
      have h3 := ih k (by rw [hk]; simp) (h.kid (by rw [hk]; simp))
      have h5 : k.weight ≤ 4001 := by rw [Tr.weight_eq]; exact (wOf_range (by rw [(weights_sum k.kids 0 (fun x _ => x.weight_nonneg) (by omega)).1]; have := (weights_sum k.kids 0 (fun x _ => x.weight_nonneg) (by omega)).2; omega) (by omega)).2
      show k.turn.weight ≤ _
      rw [t.weight_eq, h1, hk, wsum_cons]
      have e : wsum [] = 0 := rfl
      rw [e]
      unfold wOf
      rw [if_pos h6]
      have := k.weight_nonneg
      omega
    · rw [if_neg h6, Tr.weight_eq, t.weight_eq]
      dsimp only
      have hs : wsum (t.kids.map Tr.turn) ≤ wsum t.kids := by
        have key : ∀ l : List Tr, (∀ k ∈ l, k.turn.weight ≤ k.weight) → wsum (l.map Tr.turn) ≤ wsum l := by
          intro l
          induction l with
          | nil => intro _; exact Int.le_refl _
          | cons k l ihl =>
            intro hh
            have a := hh k (List.mem_cons_self ..)
            have b := ihl fun x hx => hh x (List.mem_cons_of_mem _ hx)
            rw [List.map_cons, wsum_cons, wsum_cons]
            omega
        exact key t.kids fun k hk => ih k hk (h.kid hk)
      have hl : (if t.op = 11 then (t.kids.map Tr.turn).reverse else t.kids.map Tr.turn).length = t.kids.length := by split <;> simp
      have hsum : wsum (if t.op = 11 then (t.kids.map Tr.turn).reverse else t.kids.map Tr.turn) = wsum (t.kids.map Tr.turn) := by split <;> simp [wsum_rev]
      obtain ⟨h3, h4⟩ := weights_sum (if t.op = 11 then (t.kids.map Tr.turn).reverse else t.kids.map Tr.turn) 0 (fun k _ => k.weight_nonneg) (by omega)
      rw [hl, h3, h1, hsum]
      rw [hsum] at h4
      exact wOf_mono (by omega) (by omega)
theorem RightP.turn {t : Tr} (h : RightP t) : RightP t.turn := by
  have ho := h.one
  refine ⟨Nat.le_trans (Tr.turn_depth ho) h.1, Int.le_trans (Tr.turn_weight ho) h.2.1, fun q hq => (Tr.turn_oks ho h.oks q hq).1, ?_⟩
  rw [Tr.turn_grp ho h.oks]
  exact CapsOK.nil
end Go.Proofs.Ytbhcgjahlfpjoaa
namespace Go.Proofs.Ytbhcgjahlfpjoaa
open Go.RowKit

/-- What a builder tells: a tree, all that it reads in blocks that lay at first or are new. -/
def BuiltB (t : Tr) (m0 : Nat) (w : World) (e : Ending) (w' : World) : Prop :=
  ∃ a : TA, e = .returned (.agg (t.cells a).toArray) ∧ TOk w' (fun b => b < m0 ∨ w.heap.size ≤ b) t a ∧ Below w.heap.size w w'
/-- Trees built in a row of their own. -/
structure KRow (m0 base : Nat) (W : World) (ys : List (Tr × TA)) (v : Value) : Prop where
  own : W.ownsRow base 27 10 v ys.length (tcells ys)
  kids : ∀ y ∈ ys, TOk W (fun b => (b < m0 ∨ base ≤ b) ∧ v.ownBlock ≠ some b) y.1 y.2
theorem KRow.nil (m0 base : Nat) (W : World) : KRow m0 base W [] (.slice none 0 0) := ⟨World.ownsRow_nil _ _ _ _, fun _ h => by cases h⟩
theorem KRow.below {m0 base : Nat} {W V : World} {ys : List (Tr × TA)} {v : Value} (h : KRow m0 base W ys v) (hb : Below W.heap.size W V) : KRow m0 base V ys v :=
  ⟨ownKept h.own hb, fun y hy => (h.kids y hy).keep (fun b _ hlt => hb.block b hlt) hb.size⟩
/-- One more behind the row. -/
theorem KRow.snoc {m0 base : Nat} {W W2 : World} {ys : List (Tr × TA)} {v v' : Value} {z : Tr × TA} {o : Obj} (h : KRow m0 base W ys v) (hz : TOk W (fun b => (b < m0 ∨ base ≤ b) ∧ v.ownBlock ≠ some b) z.1 z.2)
    (hown : W2.ownsRow base 27 10 v' (ys.length + 1) (tcells ys ++ z.1.cells z.2)) (hg : (W.alloc o).grownBy W2 v.ownBlock) (hat : v'.ownBlock = v.ownBlock ∨ v'.ownBlock = some (W.alloc o).heap.size) : KRow m0 base W2 (ys ++ [z]) v' := by
  have hs : W.heap.size ≤ W2.heap.size := by have := hg.size; rw [World.size_alloc] at this; omega
  have key : ∀ y : Tr × TA, TOk W (fun b => (b < m0 ∨ base ≤ b) ∧ v.ownBlock ≠ some b) y.1 y.2 → TOk W2 (fun b => (b < m0 ∨ base ≤ b) ∧ v'.ownBlock ≠ some b) y.1 y.2 := fun y hy => by
    have h1 : TOk W (fun b => ((b < m0 ∨ base ≤ b) ∧ v'.ownBlock ≠ some b) ∧ v.ownBlock ≠ some b) y.1 y.2 := hy.mono fun b hlt hb => ⟨⟨hb.1, by
      rcases hat with e | e
      · rw [e]; exact hb.2
      · rw [e, World.size_alloc]; intro e2; injection e2; omega⟩, hb.2⟩
    refine (h1.keep (fun b hb hlt => ?_) hs).mono fun b _ hb => hb.1
    refine (hg.block b (by rw [World.size_alloc]; omega) (fun e => hb.2 e.symm)).trans (Below.heap_alloc W o b hlt)
  refine ⟨?_, fun y hy => ?_⟩
  · rw [List.length_append, tcells_append]
    simpa [tcells] using hown
  · rcases List.mem_append.1 hy with hy | hy
    · exact key y (h.kids y hy)
    · rw [List.mem_singleton] at hy; subst hy; exact key _ hz
end Go.Proofs.Ytbhcgjahlfpjoaa
namespace Go.Proofs.Ytbhcgjahlfpjoaa
open Go.RowKit

theorem Tr.eta (t : Tr) : (⟨t.op, t.kids, t.rune, t.set, t.at_, t.cap, t.name, t.mn, t.mx, t.lzy⟩ : Tr) = t := by cases t; rfl
/-- A tree of ranges alone. -/
def leafS (s : List Rg) : Tr := ⟨0, [], 0, s, 0, 0, ⟨#[]⟩, 0, 0, false⟩
theorem TOk.leaf {w : World} {ok : Nat → Prop} {t : Tr} {a : TA} (h : TOk w ok t a) : TOk w ok (leafS t.set) ⟨none, 0, 0, a.sA, a.sn, a.sc⟩ := by
  cases h with
  | mk ka hset hsok hlen hle hmax hnil hname hfit hrow hkids =>
    exact .mk (fun _ => a) hset hsok rfl (Nat.le_refl _) (Nat.zero_le _) (fun _ => rfl) (Nat.zero_le _) hfit (fun h => absurd h (Nat.lt_irrefl _)) (fun i k hk => by simp [leafS] at hk)
theorem TOk.ofSet {w : World} {ok : Nat → Prop} {s : List Rg} {A : Option Addr} {n c : Nat} (hset : RgIn w A n c s) (hok : 0 < n → ∀ p, A = some p → ok p.block) (hfit : n ≤ 17592186043904) : TOk w ok (leafS s) ⟨none, 0, 0, A, n, c⟩ :=
  .mk (fun _ => ⟨none, 0, 0, A, n, c⟩) hset hok rfl (Nat.le_refl _) (Nat.zero_le _) (fun _ => rfl) (Nat.zero_le _) hfit (fun h => absurd h (Nat.lt_irrefl _)) (fun i k hk => by simp [leafS] at hk)
theorem own_lt {W : World} {base : Nat} {e : TypeId} {size n : Nat} {v : Value} {xs : List Value} (h : W.ownsRow base e size v n xs) {k : Nat} (hk : v.ownBlock = some k) : base ≤ k ∧ k < W.heap.size := h.lt k hk
/-- A builder's state. -/
structure KSt (m0 base : Nat) (W : World) (ys : List (Tr × TA)) (v : Value) (s : List Rg) (sA : Option Addr) (sn sc : Nat) : Prop where
  row : KRow m0 base W ys v
  set : TOk W (fun b => (b < m0 ∨ base ≤ b) ∧ v.ownBlock ≠ some b) (leafS s) ⟨none, 0, 0, sA, sn, sc⟩
section
variable {m0 base : Nat} {W V : World} {ys : List (Tr × TA)} {v : Value} {s : List Rg} {sA : Option Addr} {sn sc : Nat}
theorem KSt.below (h : KSt m0 base W ys v s sA sn sc) (hb : Below W.heap.size W V) : KSt m0 base V ys v s sA sn sc :=
  ⟨h.row.below hb, h.set.keep (fun b _ hlt => hb.block b hlt) hb.size⟩
theorem KSt.nil (hs : TOk W (fun b => b < m0 ∨ base ≤ b) (leafS s) ⟨none, 0, 0, sA, sn, sc⟩) : KSt m0 base W [] (.slice none 0 0) s sA sn sc :=
  ⟨KRow.nil _ _ _, hs.mono fun _ _ h => ⟨h, by simp [Value.ownBlock]⟩⟩
/-- A block apart is written. -/
theorem KSt.far (h : KSt m0 base W ys v s sA sn sc) {p : Addr} (h1 : m0 ≤ p.block) (h2 : p.block < base) (u : Value) : KSt m0 base (W.setCell p u) ys v s sA sn sc := by
  have key : ∀ b, ((b < m0 ∨ base ≤ b) ∧ v.ownBlock ≠ some b) → b < W.heap.size → (W.setCell p u).heap[b]? = W.heap[b]? := fun b hb _ => Below.heap_setCell W p u b (by have := hb.1; omega)
  refine ⟨⟨?_, fun y hy => (h.row.kids y hy).keep key (by rw [World.size_setCell]; omega)⟩, h.set.keep key (by rw [World.size_setCell]; omega)⟩
  exact ownsRow_setCell_below h.row.own h2 u
/-- One more. -/
theorem KSt.snoc {W2 : World} {z : Tr × TA} {v' : Value} {o : Obj} (h : KSt m0 base W ys v s sA sn sc) (hz : TOk W (fun b => (b < m0 ∨ base ≤ b) ∧ v.ownBlock ≠ some b) z.1 z.2)
    (hown : W2.ownsRow base 27 10 v' (ys.length + 1) (tcells ys ++ z.1.cells z.2)) (hg : (W.alloc o).grownBy W2 v.ownBlock) (hat : v'.ownBlock = v.ownBlock ∨ v'.ownBlock = some (W.alloc o).heap.size) : KSt m0 base W2 (ys ++ [z]) v' s sA sn sc := by
  refine ⟨h.row.snoc hz hown hg hat, ?_⟩
  have hs : W.heap.size ≤ W2.heap.size := by have := hg.size; rw [World.size_alloc] at this; omega
  have h1 : TOk W (fun b => ((b < m0 ∨ base ≤ b) ∧ v'.ownBlock ≠ some b) ∧ v.ownBlock ≠ some b) (leafS s) ⟨none, 0, 0, sA, sn, sc⟩ := h.set.mono fun b hlt hb => ⟨⟨hb.1, by
    rcases hat with e | e
    · rw [e]; exact hb.2
    · rw [e, World.size_alloc]; intro e2; injection e2; omega⟩, hb.2⟩
  refine (h1.keep (fun b hb hlt => ?_) hs).mono fun b _ hb => hb.1
  exact (hg.block b (by rw [World.size_alloc]; omega) (fun e => hb.2 e.symm)).trans (Below.heap_alloc W o b hlt)
/-- What a builder hands back. -/
theorem KSt.done {n d : Nat} {B : Option Addr} {op rune at_ cap mn mx : Int} {name : ByteArray} {lzy : Bool} {wsz : Nat} (h : KSt m0 base W ys (.slice B n d) s sA sn sc) (hn : n = ys.length) (hd : n ≤ d) (hm : d ≤ maxLen) (hB : B = none → n = 0) (hname : name.size ≤ maxLen) (hw : wsz ≤ base) :
    TOk W (fun b => b < m0 ∨ wsz ≤ b) ⟨op, ys.map (·.1), rune, s, at_, cap, name, mn, mx, lzy⟩ ⟨B, n, d, sA, sn, sc⟩ := by
  have hsx := h.set
  cases hsx with
  | mk ka0 hset hsok _ _ _ _ _ hfit _ _ =>
    have hget : ∀ (i : Nat) (k : Tr), (ys.map (·.1))[i]? = some k → ∃ y, ys[i]? = some y ∧ y.1 = k := fun i k hk => by rw [List.getElem?_map] at hk; exact Option.map_eq_some_iff.1 hk
    refine .mk (fun i => (ys[i]?.map (·.2)).getD ⟨none, 0, 0, none, 0, 0⟩) hset (fun hp p he => ?_) (by rw [List.length_map]; exact hn.symm) hd hm hB hname hfit (fun hp => ?_) (fun i k hk => ?_)
    · have h1 := (hsok hp p he).1
      show p.block < m0 ∨ wsz ≤ p.block
      omega
    · replace hp : 0 < n := hp
      obtain ⟨g, cap, hf, _, hlt⟩ := h.row.own.form (by omega)
      injection hf with hB' _ _
      subst hB'
      have hlow := (own_lt h.row.own (k := g) rfl).1
      refine ⟨g, 0, rfl, hlt, Or.inr (by omega), fun i k hk j v hv => ?_⟩
      obtain ⟨y, hy, rfl⟩ := hget i k hk
      rw [hy] at hv
      have h1 := h.row.own.cells (g := g) rfl (i * 10 + j) v (tcells_at hy (by simpa using hv))
      rw [Go.WideShapes.add_plain] at h1
      exact h1
    · obtain ⟨y, hy, rfl⟩ := hget i k hk
      rw [hy]
      exact (h.row.kids y (List.mem_of_getElem? hy)).mono fun b _ hb => by have := hb.1; omega
/-- What is called gives one that can be put behind. -/
theorem KSt.kid {W5 : World} {z : Tr × TA} (h : KSt m0 base W ys v s sA sn sc) (h0 : m0 ≤ base) (hz : TOk W5 (fun b => b < m0 ∨ W.heap.size ≤ b) z.1 z.2) (hs : base ≤ W.heap.size) : TOk W5 (fun b => (b < m0 ∨ base ≤ b) ∧ v.ownBlock ≠ some b) z.1 z.2 :=
  hz.mono fun b _ hb => ⟨by omega, fun e => by have := own_lt h.row.own e; omega⟩
end
theorem TBox.kids {W : World} {g : Nat} {t : Tr} {kA : Option Addr} {kn kc : Nat} {sA : Option Addr} {sn sc : Nat} (h : TBox W g t ⟨kA, kn, kc, sA, sn, sc⟩) (B : Option Addr) (n d : Nat) : TBox (W.setCell ⟨g, 1, none⟩ (.slice B n d)) g t ⟨B, n, d, sA, sn, sc⟩ := Blk.set h 1 _
theorem TBox.sets {W : World} {g : Nat} {t : Tr} {kA : Option Addr} {kn kc : Nat} {sA : Option Addr} {sn sc : Nat} (h : TBox W g t ⟨kA, kn, kc, sA, sn, sc⟩) (B : Option Addr) (n d : Nat) : TBox (W.setCell ⟨g, 3, none⟩ (.slice B n d)) g t ⟨kA, kn, kc, B, n, d⟩ := Blk.set h 3 _
theorem TBox.grown {W W' : World} {g : Nat} {t : Tr} {a : TA} {row : Option Nat} (h : TBox W g t a) (hb : W.grownBy W' row) (hg : row ≠ some g) : TBox W' g t a := Blk.grown h hb hg
/-- The ten cells of a tree are stored. -/
def put10 (W : World) (g : Nat) (t : Tr) (a : TA) : World := (((((((((W.setCell ⟨g, 0, none⟩ (.int .i64 t.op)).setCell ⟨g, 1, none⟩ (.slice a.kA a.kn a.kc)).setCell ⟨g, 2, none⟩ (.int .i32 t.rune)).setCell ⟨g, 3, none⟩ (.slice a.sA a.sn a.sc)).setCell ⟨g, 4, none⟩ (.int .i64 t.at_)).setCell ⟨g, 5, none⟩ (.int .i64 t.cap)).setCell ⟨g, 6, none⟩ (.string t.name)).setCell ⟨g, 7, none⟩ (.int .i64 t.mn)).setCell ⟨g, 8, none⟩ (.int .i64 t.mx)).setCell ⟨g, 9, none⟩ (.bool t.lzy)
section
variable {W : World} {g : Nat} {t t0 : Tr} {a a0 : TA}
theorem TBox.put (h : TBox W g t0 a0) : TBox (put10 W g t a) g t a := by
  unfold TBox Tr.cells at h
  have h' := ((((((((((Blk.set h 0 (.int .i64 t.op)).set 1 (.slice a.kA a.kn a.kc)).set 2 (.int .i32 t.rune)).set 3 (.slice a.sA a.sn a.sc)).set 4 (.int .i64 t.at_)).set 5 (.int .i64 t.cap)).set 6 (.string t.name)).set 7 (.int .i64 t.mn)).set 8 (.int .i64 t.mx)).set 9 (.bool t.lzy))
  simp only [List.setIfInBounds_toArray, List.set_cons_zero, List.set_cons_succ] at h'
  unfold TBox put10 Tr.cells
  exact h'
theorem put10_block (b : Nat) (hb : b ≠ g) : (put10 W g t a).heap[b]? = W.heap[b]? := by
  unfold put10
  repeat rw [Below.heap_setCell _ _ _ _ (by exact hb)]
theorem put10_size : (put10 W g t a).heap.size = W.heap.size := by unfold put10; simp only [World.size_setCell]
theorem put10_below {B : Nat} {w : World} (h : Below B w W) (hg : B ≤ g) : Below B w (put10 W g t a) :=
  (((((((((h.setCell (p := ⟨g, 0, none⟩) hg _).setCell (p := ⟨g, 1, none⟩) hg _).setCell (p := ⟨g, 2, none⟩) hg _).setCell (p := ⟨g, 3, none⟩) hg _).setCell (p := ⟨g, 4, none⟩) hg _).setCell (p := ⟨g, 5, none⟩) hg _).setCell (p := ⟨g, 6, none⟩) hg _).setCell (p := ⟨g, 7, none⟩) hg _).setCell (p := ⟨g, 8, none⟩) hg _).setCell (p := ⟨g, 9, none⟩) hg _
theorem KSt.put {m0 base : Nat} {ys : List (Tr × TA)} {v : Value} {s : List Rg} {sA : Option Addr} {sn sc : Nat} (h : KSt m0 base W ys v s sA sn sc) (h1 : m0 ≤ g) (h2 : g < base) : KSt m0 base (put10 W g t a) ys v s sA sn sc :=
  (((((((((h.far (p := ⟨g, 0, none⟩) h1 h2 _).far (p := ⟨g, 1, none⟩) h1 h2 _).far (p := ⟨g, 2, none⟩) h1 h2 _).far (p := ⟨g, 3, none⟩) h1 h2 _).far (p := ⟨g, 4, none⟩) h1 h2 _).far (p := ⟨g, 5, none⟩) h1 h2 _).far (p := ⟨g, 6, none⟩) h1 h2 _).far (p := ⟨g, 7, none⟩) h1 h2 _).far (p := ⟨g, 8, none⟩) h1 h2 _).far (p := ⟨g, 9, none⟩) h1 h2 _
theorem TOk.put {ok : Nat → Prop} {t1 : Tr} {a1 : TA} (h : TOk W ok t1 a1) (hg : ¬ ok g) : TOk (put10 W g t a) ok t1 a1 :=
  h.keep (fun b hb _ => put10_block b fun e => hg (e ▸ hb)) (Nat.le_of_eq put10_size.symm)
/-- A tree is handed back out of its variable. -/
theorem tree_ret {fn : Func} {R : Ending → World → Prop} {tmps : Array Value} {p : Tmp} (h : TBox W g t0 a0) (hf : fn.results = #[.cell p 27]) (hp : tmps.getD p undef = .pointer (some ⟨g, 0, none⟩)) (hR : R (.returned (.agg (t.cells a).toArray)) (put10 W g t a)) : bodyPost Try.prog fn R .ret { tmps := tmps, defers := [] } (put10 W g t a) :=
  bodyPost_ret (results_cell_row hf tmps (put10 W g t a) g 27 (t.cells a).toArray (0, 0) _ hp (TBox.put h) Try.underlying27 rfl (by kernel_rfl)) rfl hR
end
end Go.Proofs.Ytbhcgjahlfpjoaa
