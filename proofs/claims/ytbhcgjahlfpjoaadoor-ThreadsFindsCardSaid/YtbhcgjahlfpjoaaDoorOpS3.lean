/- Union, Norm, Not, Meet: the walks. -/
import Derived.Test.YtbhcgjahlfpjoaaDoorEdB
import Derived.Test.YtbhcgjahlfpjoaaDoorSpW2
import Derived.Test.YtbhcgjahlfpjoaaDoorSetW0
namespace Go.Proofs.YtbhcgjahlfpjoaaDoor
open Go.RowKit

set_option maxHeartbeats 1000000 in
theorem isUnion : IsFn 71 (fun n => decide (0 < n)) := by
  refine ⟨enters_of Tryd.func71 (by kernel_rfl) rfl, fun x w h1 h2 => ?_⟩
  go_enter Tryd.func71, Tryd.ntmps71
  go_wp2
  go_ret
  exact ⟨rfl, rfl⟩
theorem edgesF_ok (l : List Rg) : ∀ e ∈ edgesF l, EdOK e := by
  induction l with
  | nil => intro e h; cases h
  | cons x r ih =>
    intro e he
    simp only [edgesF, List.mem_append] at he
    rcases he with he | he
    · split at he
      · rename_i h
        unfold maxR at h
        simp only [List.mem_cons, List.not_mem_nil, or_false] at he
        rcases he with rfl | rfl
        · unfold EdOK maxR; dsimp only; omega
        · unfold EdOK maxR; dsimp only; omega
      · cases he
    · exact ih e he

/-- The edges of lists, and what of their stretches is right. -/
theorem ed_those {w w1 w2 : World} {L E : List Rg} {B : Option Addr} {d : Nat} (is : Int → Bool) (gf : Nat) (hG : IsFn gf is) (hb : Below w.heap.size w w1) (hL : L.length ≤ 2000000) (hp : (edgesF L).Perm E) (hs : E.Pairwise fun a b => a.1 ≤ b.1)
    (ho : w2.ownsRow w1.heap.size 151 2 (.slice B E.length d) E.length (edCells E)) (hb2 : Below w1.heap.size w1 w2) :
    Calls Tryd.prog 69 #[.slice B E.length d, .func (.func gf) #[] #[]] w2 fun e w' => ∃ B' m d' r, e = .returned (.slice B' m d') ∧ Got (fun c => is (num L c) = true) w B' m d' r w' := by
  have hlen : E.length ≤ 4000000 := by have := edgesF_len L; rw [hp.length_eq] at this; omega
  have hn : B = none → E.length = 0 := by
    intro h
    subst h
    rcases Nat.eq_zero_or_pos E.length with h0 | h0
    · exact h0
    · obtain ⟨g, cap, hv, _⟩ := ho.form h0
      cases hv
  refine (those_any is gf hG rfl hlen (fun e he => edgesF_ok L e (hp.mem_iff.2 he)) hn (Rd.of_own ho (Nat.zero_le _) (Nat.le_refl _))).mono ?_
  rintro e w' ⟨v, rfl, hown, hbl⟩
  obtain ⟨B', d', rfl, h1, h2⟩ := own_form hown
  have hsz := Nat.le_trans hb.size hb2.size
  exact ⟨B', _, d', _, rfl, those_setOf is hp hs, rfl, ownsRow_base hown hsz, (hb.trans (hb2.mono hb.size)).trans (hbl.mono hsz)⟩

set_option maxHeartbeats 2000000 in
theorem union_any {w : World} {A B : Option Addr} {n c m d : Nat} {l r : List Rg} (hA : RgIn w A n c l) (hB : RgIn w B m d r) (hn : n ≤ 1000000) (hm : m ≤ 1000000) :
    Calls Tryd.prog 68 #[.slice A n c, .slice B m d] w fun e w' => ∃ B' m' d' s, e = .returned (.slice B' m' d') ∧ Got (fun x => mem l x ∨ mem r x) w B' m' d' s w' := by
  have hb1 : Below w.heap.size w (w.alloc (.cells #[.slice A n c, .slice B m d] 61)) := (Below.refl _ _).alloc (Nat.le_refl _) _
  have hBk := Blk.new w 61 #[.slice A n c, .slice B m d]
  have he := edges_any (w := w.alloc (.cells #[.slice A n c, .slice B m d] 61)) (Lb := w.heap.size) (m := 2) (cm := 2) (xs := [⟨A, n, c, l⟩, ⟨B, m, d, r⟩]) rfl (Nat.le_refl _) (by simp)
    (fun j x hx => by
      match j, hx with
      | 0, hx => simp at hx; subst hx; exact ⟨hBk.cell 0, hA.below hb1⟩
      | 1, hx => simp at hx; subst hx; exact ⟨hBk.cell 1, hB.below hb1⟩
      | j + 2, hx => simp at hx)
    (fun x hx => by
      simp only [List.mem_cons, List.not_mem_nil, or_false] at hx
      have h1 := hA.len
      have h2 := hB.len
      rcases hx with rfl | rfl <;> dsimp only <;> omega)
  have hflat : flatR [⟨A, n, c, l⟩, ⟨B, m, d, r⟩] = l ++ r := by simp [flatR]
  rw [hflat] at he
  have hL : (l ++ r).length ≤ 2000000 := by rw [List.length_append, hA.len, hB.len]; omega
  have hthose := fun E B' d' w2 => ed_those (w := w) (w2 := w2) (L := l ++ r) (E := E) (B := B') (d := d') (fun n => decide (0 < n)) 71 isUnion hb1 hL
  have hq : ∀ B' m' d' s w', Got (fun c => decide (0 < num (l ++ r) c) = true) w B' m' d' s w' → Got (fun x => mem l x ∨ mem r x) w B' m' d' s w' := fun B' m' d' s w' h =>
    ⟨h.set.cong fun c _ _ => by rw [decide_eq_true_iff, num_pos, mem_append], h.len, h.own, h.below⟩
  clear hA hB hBk hflat
  go_enter Tryd.func68, Tryd.ntmps68
  go_wp2_with (first | (go_at_call 70; refine he.mono ?_; rintro e w2 ⟨v, E, rfl, hp, hs, ho, hb2⟩; obtain ⟨B1, d1, rfl, _, _⟩ := own_form ho) | (go_at_call 69; refine (hthose E B1 d1 w2 hp hs ho hb2).mono ?_; rintro e w3 ⟨B', m', d', s, rfl, hg⟩))
  go_ret
  exact ⟨_, _, _, _, rfl, hq _ _ _ _ _ hg⟩

theorem RgIn.empty (w : World) : RgIn w none 0 0 [] := ⟨Rd.nil, rfl, Nat.le_refl _, Nat.zero_le _, fun _ => rfl, fun _ h => by cases h⟩

set_option maxHeartbeats 2000000 in
theorem norm_any {w : World} {A : Option Addr} {n c : Nat} {l : List Rg} (hA : RgIn w A n c l) (hn : n ≤ 1000000) :
    Calls Tryd.prog 65 #[.slice A n c] w fun e w' => ∃ B' m' d' s, e = .returned (.slice B' m' d') ∧ Got (mem l) w B' m' d' s w' := by
  have hu := union_any hA (RgIn.empty w) hn (Nat.zero_le _)
  have hq : ∀ B' m' d' s w', Got (fun x => mem l x ∨ mem [] x) w B' m' d' s w' → Got (mem l) w B' m' d' s w' := fun B' m' d' s w' h =>
    ⟨h.set.cong fun c _ _ => by simp [mem_nil], h.len, h.own, h.below⟩
  clear hA
  go_enter Tryd.func65, Tryd.ntmps65
  go_wp2_with (go_at_call 68; refine hu.mono ?_; rintro e w2 ⟨B', m', d', s, rfl, hg⟩)
  go_ret
  exact ⟨_, _, _, _, rfl, hq _ _ _ _ _ hg⟩

end Go.Proofs.YtbhcgjahlfpjoaaDoor
