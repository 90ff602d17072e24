/- Union, Norm, Not, Meet: the walks. -/
import Derived.Test.YtoglnankopdohaaEdB
import Derived.Test.YtoglnankopdohaaSpW2
import Derived.Test.YtoglnankopdohaaSetW0
namespace Go.Proofs.Ytoglnankopdohaa
open Go.RowKit

set_option maxHeartbeats 1000000 in
theorem isUnion : IsFn 71 (fun n => decide (0 < n)) := by
  refine ⟨enters_of Try.func71 (by kernel_rfl) rfl, fun x w h1 h2 => ?_⟩
  go_enter Try.func71, Try.ntmps71
  go_wp2
  go_ret
  exact ⟨rfl, rfl⟩
set_option maxHeartbeats 1000000 in
theorem isNot : IsFn 72 (fun n => decide (n = 0)) := by
  refine ⟨enters_of Try.func72 (by kernel_rfl) rfl, fun x w h1 h2 => ?_⟩
  go_enter Try.func72, Try.ntmps72
  go_wp2
  go_ret
  exact ⟨retB (by by_cases h : x = 0 <;> simp [h]), rfl⟩
set_option maxHeartbeats 1000000 in
theorem isMeet : IsFn 75 (fun n => decide (n = 2)) := by
  refine ⟨enters_of Try.func75 (by kernel_rfl) rfl, fun x w h1 h2 => ?_⟩
  go_enter Try.func75, Try.ntmps75
  go_wp2
  go_ret
  exact ⟨retB (by by_cases h : x = 2 <;> simp [h]), rfl⟩

theorem edgesF_ok (l : List Rg) : ∀ e ∈ edgesF l, EdOK e := by
  induction l with
  | nil => intro e h; cases h
  | cons x r ih =>
    intro e he
    simp only [edgesF, List.mem_append] at he
    rcases he with he | he
    · split at he
      · rename_i h
        unfold maxR at h
        simp only [List.mem_cons, List.not_mem_nil, or_false] at he
        rcases he with rfl | rfl
        · unfold EdOK maxR; dsimp only; omega
        · unfold EdOK maxR; dsimp only; omega
      · cases he
    · exact ih e he

/-- The edges of lists, and what of their stretches is right. -/
theorem ed_those {w w1 w2 : World} {L E : List Rg} {B : Option Addr} {d : Nat} (is : Int → Bool) (gf : Nat) (hG : IsFn gf is) (hb : Below w.heap.size w w1) (hL : L.length ≤ 2000000) (hp : (edgesF L).Perm E) (hs : E.Pairwise fun a b => a.1 ≤ b.1)
    (ho : w2.ownsRow w1.heap.size 80 2 (.slice B E.length d) E.length (edCells E)) (hb2 : Below w1.heap.size w1 w2) :
    Calls Try.prog 69 #[.slice B E.length d, .func (.func gf) #[] #[]] w2 fun e w' => ∃ B' m d' r, e = .returned (.slice B' m d') ∧ Got (fun c => is (num L c) = true) w B' m d' r w' := by
  have hlen : E.length ≤ 4000000 := by have := edgesF_len L; rw [hp.length_eq] at this; omega
  have hn : B = none → E.length = 0 := by
    intro h
    subst h
    rcases Nat.eq_zero_or_pos E.length with h0 | h0
    · exact h0
    · obtain ⟨g, cap, hv, _⟩ := ho.form h0
      cases hv
  refine (those_any is gf hG rfl hlen (fun e he => edgesF_ok L e (hp.mem_iff.2 he)) hn (Rd.of_own ho (Nat.zero_le _) (Nat.le_refl _))).mono ?_
  rintro e w' ⟨v, rfl, hown, hbl⟩
  obtain ⟨B', d', rfl, h1, h2⟩ := own_form hown
  have hsz := Nat.le_trans hb.size hb2.size
  exact ⟨B', _, d', _, rfl, those_setOf is hp hs, rfl, ownsRow_base hown hsz, (hb.trans (hb2.mono hb.size)).trans (hbl.mono hsz)⟩

set_option maxHeartbeats 2000000 in
theorem union_any {w : World} {A B : Option Addr} {n c m d : Nat} {l r : List Rg} (hA : RgIn w A n c l) (hB : RgIn w B m d r) (hn : n ≤ 1000000) (hm : m ≤ 1000000) :
    Calls Try.prog 38 #[.slice A n c, .slice B m d] w fun e w' => ∃ B' m' d' s, e = .returned (.slice B' m' d') ∧ Got (fun x => mem l x ∨ mem r x) w B' m' d' s w' := by
  have hb1 : Below w.heap.size w (w.alloc (.cells #[.slice A n c, .slice B m d] 23)) := (Below.refl _ _).alloc (Nat.le_refl _) _
  have hBk := Blk.new w 23 #[.slice A n c, .slice B m d]
  have he := edges_any (w := w.alloc (.cells #[.slice A n c, .slice B m d] 23)) (Lb := w.heap.size) (m := 2) (cm := 2) (xs := [⟨A, n, c, l⟩, ⟨B, m, d, r⟩]) rfl (Nat.le_refl _) (by simp)
    (fun j x hx => by
      match j, hx with
      | 0, hx => simp at hx; subst hx; exact ⟨hBk.cell 0, hA.below hb1⟩
      | 1, hx => simp at hx; subst hx; exact ⟨hBk.cell 1, hB.below hb1⟩
      | j + 2, hx => simp at hx)
    (fun x hx => by
      simp only [List.mem_cons, List.not_mem_nil, or_false] at hx
      have h1 := hA.len
      have h2 := hB.len
      rcases hx with rfl | rfl <;> dsimp only <;> omega)
  have hflat : flatR [⟨A, n, c, l⟩, ⟨B, m, d, r⟩] = l ++ r := by simp [flatR]
  rw [hflat] at he
  have hL : (l ++ r).length ≤ 2000000 := by rw [List.length_append, hA.len, hB.len]; omega
  have hthose := fun E B' d' w2 => ed_those (w := w) (w2 := w2) (L := l ++ r) (E := E) (B := B') (d := d') (fun n => decide (0 < n)) 71 isUnion hb1 hL
  have hq : ∀ B' m' d' s w', Got (fun c => decide (0 < num (l ++ r) c) = true) w B' m' d' s w' → Got (fun x => mem l x ∨ mem r x) w B' m' d' s w' := fun B' m' d' s w' h =>
    ⟨h.set.cong fun c _ _ => by rw [decide_eq_true_iff, num_pos, mem_append], h.len, h.own, h.below⟩
  clear hA hB hBk hflat
  go_enter Try.func38, Try.ntmps38
  go_wp2_with (first | (go_at_call 70; refine he.mono ?_; rintro e w2 ⟨v, E, rfl, hp, hs, ho, hb2⟩; obtain ⟨B1, d1, rfl, _, _⟩ := own_form ho) | (go_at_call 69; refine (hthose E B1 d1 w2 hp hs ho hb2).mono ?_; rintro e w3 ⟨B', m', d', s, rfl, hg⟩))
  go_ret
  exact ⟨_, _, _, _, rfl, hq _ _ _ _ _ hg⟩

theorem RgIn.empty (w : World) : RgIn w none 0 0 [] := ⟨Rd.nil, rfl, Nat.le_refl _, Nat.zero_le _, fun _ => rfl, fun _ h => by cases h⟩

set_option maxHeartbeats 2000000 in
theorem norm_any {w : World} {A : Option Addr} {n c : Nat} {l : List Rg} (hA : RgIn w A n c l) (hn : n ≤ 1000000) :
    Calls Try.prog 36 #[.slice A n c] w fun e w' => ∃ B' m' d' s, e = .returned (.slice B' m' d') ∧ Got (mem l) w B' m' d' s w' := by
  have hu := union_any hA (RgIn.empty w) hn (Nat.zero_le _)
  have hq : ∀ B' m' d' s w', Got (fun x => mem l x ∨ mem [] x) w B' m' d' s w' → Got (mem l) w B' m' d' s w' := fun B' m' d' s w' h =>
    ⟨h.set.cong fun c _ _ => by simp [mem_nil], h.len, h.own, h.below⟩
  clear hA
  go_enter Try.func36, Try.ntmps36
  go_wp2_with (go_at_call 38; refine hu.mono ?_; rintro e w2 ⟨B', m', d', s, rfl, hg⟩)
  go_ret
  exact ⟨_, _, _, _, rfl, hq _ _ _ _ _ hg⟩

set_option maxHeartbeats 2000000 in
theorem not_any {w : World} {A : Option Addr} {n c : Nat} {l : List Rg} (hA : RgIn w A n c l) (hn : n ≤ 1000000) :
    Calls Try.prog 40 #[.slice A n c] w fun e w' => ∃ B' m' d' s, e = .returned (.slice B' m' d') ∧ Got (fun x => ¬ mem l x) w B' m' d' s w' := by
  have hb1 : Below w.heap.size w (w.alloc (.cells #[.slice A n c] 23)) := (Below.refl _ _).alloc (Nat.le_refl _) _
  have hBk := Blk.new w 23 #[.slice A n c]
  have he := edges_any (w := w.alloc (.cells #[.slice A n c] 23)) (Lb := w.heap.size) (m := 1) (cm := 1) (xs := [⟨A, n, c, l⟩]) rfl (by omega) (by simp)
    (fun j x hx => by
      match j, hx with
      | 0, hx => simp at hx; subst hx; exact ⟨hBk.cell 0, hA.below hb1⟩
      | j + 1, hx => simp at hx)
    (fun x hx => by
      simp only [List.mem_cons, List.not_mem_nil, or_false] at hx
      have h1 := hA.len
      subst hx; dsimp only; omega)
  have hflat : flatR [⟨A, n, c, l⟩] = l := by simp [flatR]
  rw [hflat] at he
  have hL : l.length ≤ 2000000 := by rw [hA.len]; omega
  have hthose := fun E B' d' w2 => ed_those (w := w) (w2 := w2) (L := l) (E := E) (B := B') (d := d') (fun n => decide (n = 0)) 72 isNot hb1 hL
  have hq : ∀ B' m' d' s w', Got (fun c => decide (num l c = 0) = true) w B' m' d' s w' → Got (fun x => ¬ mem l x) w B' m' d' s w' := fun B' m' d' s w' h =>
    ⟨h.set.cong fun c _ _ => by have := num_nonneg l c; rw [decide_eq_true_iff, ← num_pos]; omega, h.len, h.own, h.below⟩
  clear hA hBk hflat
  go_enter Try.func40, Try.ntmps40
  go_wp2_with (first | (go_at_call 70; refine he.mono ?_; rintro e w2 ⟨v, E, rfl, hp, hs, ho, hb2⟩; obtain ⟨B1, d1, rfl, _, _⟩ := own_form ho) | (go_at_call 69; refine (hthose E B1 d1 w2 hp hs ho hb2).mono ?_; rintro e w3 ⟨B', m', d', s, rfl, hg⟩))
  go_ret
  exact ⟨_, _, _, _, rfl, hq _ _ _ _ _ hg⟩

set_option maxHeartbeats 2000000 in
theorem meet_any {w : World} {A B : Option Addr} {n c m d : Nat} {l r : List Rg} (hA : RgIn w A n c l) (hB : RgIn w B m d r) (hn : n ≤ 1000000) (hm : m ≤ 1000000) :
    Calls Try.prog 45 #[.slice A n c, .slice B m d] w fun e w' => ∃ B' m' d' s, e = .returned (.slice B' m' d') ∧ Got (fun x => mem l x ∧ mem r x) w B' m' d' s w' := by
  have h1 := norm_any hA hn
  have h2 := fun w2 (hb : Below w.heap.size w w2) => norm_any (hB.below hb) hm
  have h3 : ∀ (A1 B1 : Option Addr) (n1 c1 m1 d1 : Nat) (l1 r1 : List Rg) (w1 w2 : World), Got (mem l) w A1 n1 c1 l1 w1 → Got (mem r) w1 B1 m1 d1 r1 w2 →
      Calls Try.prog 70 #[.slice (some ⟨w2.heap.size, 0, none⟩) 2 2] (w2.alloc (.cells #[.slice A1 n1 c1, .slice B1 m1 d1] 23)) fun e w' => ∃ (B2 : Option Addr) (d2 : Nat) (E : List Rg), e = .returned (.slice B2 E.length d2) ∧
        Calls Try.prog 69 #[.slice B2 E.length d2, .func (.func 75) #[] #[]] w' fun e w' => ∃ B' m' d' s, e = .returned (.slice B' m' d') ∧ Got (fun x => mem l x ∧ mem r x) w B' m' d' s w' := by
    intro A1 B1 n1 c1 m1 d1 l1 r1 w1 w2 g1 g2
    have hs1 := g1.below.size
    have hb12 := g2.below.mono hs1
    have hb2 : Below w.heap.size w w2 := g1.below.trans hb12
    have hb3 : Below w.heap.size w (w2.alloc (.cells #[.slice A1 n1 c1, .slice B1 m1 d1] 23)) := hb2.alloc hb2.size _
    have hb23 : Below w2.heap.size w2 (w2.alloc (.cells #[.slice A1 n1 c1, .slice B1 m1 d1] 23)) := (Below.refl _ _).alloc (Nat.le_refl _) _
    have hBk := Blk.new w2 23 #[.slice A1 n1 c1, .slice B1 m1 d1]
    have s1 := g1.small
    have s2 := g2.small
    have he := edges_any (w := w2.alloc (.cells #[.slice A1 n1 c1, .slice B1 m1 d1] 23)) (Lb := w2.heap.size) (m := 2) (cm := 2) (xs := [⟨A1, n1, c1, l1⟩, ⟨B1, m1, d1, r1⟩]) rfl (Nat.le_refl _) (by simp)
      (fun j x hx => by
        match j, hx with
        | 0, hx => simp at hx; subst hx; exact ⟨hBk.cell 0, (g1.rg.below g2.below).below hb23⟩
        | 1, hx => simp at hx; subst hx; exact ⟨hBk.cell 1, g2.rg.below hb23⟩
        | j + 2, hx => simp at hx)
      (fun x hx => by
        simp only [List.mem_cons, List.not_mem_nil, or_false] at hx
        rcases hx with rfl | rfl <;> dsimp only <;> omega)
    have hflat : flatR [⟨A1, n1, c1, l1⟩, ⟨B1, m1, d1, r1⟩] = l1 ++ r1 := by simp [flatR]
    rw [hflat] at he
    have hL : (l1 ++ r1).length ≤ 2000000 := by rw [List.length_append]; omega
    refine he.mono ?_
    rintro e w' ⟨v, E, rfl, hp, hs, ho, hb'⟩
    obtain ⟨B2, d2, rfl, _, _⟩ := own_form ho
    refine ⟨B2, d2, E, rfl, (ed_those (w := w) (fun n => decide (n = 2)) 75 isMeet hb3 hL hp hs ho hb').mono ?_⟩
    rintro e w3 ⟨B', m', d', s, rfl, hg⟩
    refine ⟨B', m', d', s, rfl, hg.set.cong fun x hx0 hx1 => ?_, hg.len, hg.own, hg.below⟩
    have q1 := num_canon g1.set.canon x
    have q2 := num_canon g2.set.canon x
    have q3 := num_nonneg l1 x
    have q4 := num_nonneg r1 x
    have e1 : mem l x ↔ 0 < num l1 x := by rw [num_pos, g1.set.mem]; simp [hx0, hx1]
    have e2 : mem r x ↔ 0 < num r1 x := by rw [num_pos, g2.set.mem]; simp [hx0, hx1]
    rw [decide_eq_true_iff, num_append, e1, e2]
    omega
  clear hA hB
  go_enter Try.func45, Try.ntmps45
  go_wp2_with fail
  refine h1.mono ?_
  rintro e w1 ⟨A1, n1, c1, l1, rfl, g1⟩
  have h2 := h2 w1 g1.below
  clear h1
  go_wp2_with fail
  refine h2.mono ?_
  rintro e w2 ⟨B1, m1, d1, r1, rfl, g2⟩
  have h3 := h3 _ _ _ _ _ _ _ _ _ _ g1 g2
  clear h2 g1 g2
  go_wp2_with (first | (go_at_call 70; refine h3.mono ?_; rintro e w3 ⟨B2, d2, E, rfl, h4⟩) | (go_at_call 69; refine h4.mono ?_; rintro e w4 ⟨B', m', d', s, rfl, hg⟩))
  go_ret
  exact ⟨_, _, _, _, rfl, hg⟩
end Go.Proofs.Ytoglnankopdohaa
