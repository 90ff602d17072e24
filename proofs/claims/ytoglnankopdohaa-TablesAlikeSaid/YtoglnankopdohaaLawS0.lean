/- What the laws of the sets share. -/
import Derived.Test.YtoglnankopdohaaOpT
namespace Go.Proofs.Ytoglnankopdohaa
open Go.RowKit

/-- What a list has, said by a predicate. -/
def Mm (l : List Rg) (P : Int → Prop) : Prop := ∀ c, 0 ≤ c → c ≤ maxR → (mem l c ↔ P c)
theorem Mm.raw (l : List Rg) : Mm l (mem l) := fun _ _ _ => Iff.rfl
theorem so_mm {P : Int → Prop} {s : List Rg} (h : SetOf P s) : Mm s P := fun c h0 h1 => by rw [h.mem]; exact ⟨fun h => h.2.2, fun h => ⟨h0, h1, h⟩⟩
theorem so_or {P Q : Int → Prop} {l r s : List Rg} (h : SetOf (fun x => mem l x ∨ mem r x) s) (h1 : Mm l P) (h2 : Mm r Q) : SetOf (fun x => P x ∨ Q x) s := h.cong fun c a b => by rw [h1 c a b, h2 c a b]
theorem so_and {P Q : Int → Prop} {l r s : List Rg} (h : SetOf (fun x => mem l x ∧ mem r x) s) (h1 : Mm l P) (h2 : Mm r Q) : SetOf (fun x => P x ∧ Q x) s := h.cong fun c a b => by rw [h1 c a b, h2 c a b]
theorem so_not {P : Int → Prop} {l s : List Rg} (h : SetOf (fun x => ¬ mem l x) s) (h1 : Mm l P) : SetOf (fun x => ¬ P x) s := h.cong fun c a b => by rw [h1 c a b]
theorem so_norm {P : Int → Prop} {l s : List Rg} (h : SetOf (fun x => mem l x) s) (h1 : Mm l P) : SetOf P s := h.cong fun c a b => h1 c a b

/-- Below, one step on. -/
theorem Below.on {w w1 w2 : World} (h : Below w.heap.size w w1) (h' : Below w1.heap.size w1 w2) : Below w.heap.size w w2 := h.trans (h'.mono h.size)

theorem same_yes {w : World} {A B : Option Addr} {n c m d : Nat} {l r : List Rg} (hA : RgIn w A n c l) (hB : RgIn w B m d r) (h : l = r) :
    Calls Try.prog 26 #[.slice A n c, .slice B m d] w fun e w' => e = .returned (.bool true) ∧ Below w.heap.size w w' :=
  (refSame_any hA hB).mono fun e w' ⟨he, q, hw⟩ => ⟨by rw [he, decide_eq_true h], by rw [hw]; exact (Below.refl _ _).drewN⟩

theorem hasB_all (x : Int) (h0 : 0 ≤ x) (h1 : x ≤ maxR) {P : Int → Prop} {s : List Rg} (h : Mm s P) (hp : P x) : hasB s x = true := (hasB_iff s x).2 ⟨⟨h0, h1⟩, (h x h0 h1).2 hp⟩

theorem canon_all : Canon [(0, maxR)] := canon_append (l := []) canon_nil ⟨Int.le_refl _, by decide, Int.le_refl _⟩ (fun _ h => by cases h)

set_option maxHeartbeats 2000000 in
theorem head_any (w : World) : Calls Try.prog 30 #[] w fun e w' => e = .returned (.bool true) ∧ Below w.heap.size w w' := by
  have h1 := not_any (RgIn.empty w) (Nat.zero_le _)
  go_enter Try.func30, Try.ntmps30
  go_wp2_with fail
  refine h1.mono ?_
  rintro e w1 ⟨B, m, d, s, rfl, hg⟩
  have hs : s = [(0, maxR)] := canon_unique hg.set.canon canon_all fun c => by
    rw [hg.set.mem, mem_one]
    simp [mem_nil]
  subst hs
  obtain rfl : 1 = m := hg.len
  obtain ⟨b, o, p, rfl, hb, hp, hc, _⟩ := hg.rg.at (k := 0) (Nat.zero_lt_one)
  simp only [List.getElem?_cons_zero, Option.some.injEq] at hp
  subst hp
  obtain ⟨c1, c2⟩ := hc w1 (Same.refl _ _ _)
  simp only [Nat.zero_mul, Nat.add_zero, maxR] at c1 c2
  have heq := fun W => eqInRg (0, 1114111) (0, 1114111) W
  have hgd := fun a b W => guardRg .eql a b (0, 1114111) (0, 1114111) W
  simp only [rgCell] at hgd
  simp only [decide_true] at heq
  have h2 := has_any hg.rg 97
  rw [show hasB [(0, maxR)] 97 = true from rfl] at h2
  have h3 := fun w2 (hb : Below w1.heap.size w1 w2) => right_any (hg.rg.below hb) (by omega)
  have HB := Lib.hid hg.below
  clear h1 hg hc
  go_wp2_with fail
  refine h2.mono ?_
  rintro e w2 ⟨rfl, hb2⟩
  have h3 := h3 w2 hb2
  clear h2
  go_wp2_with fail
  refine h3.mono ?_
  rintro e w3 ⟨⟨s, hs, rfl⟩, hb3⟩
  have hse : [(0, maxR)] = s := canon_unique canon_all hs.canon fun c => by rw [hs.mem, mem_one]; dsimp only; constructor <;> intro h <;> omega
  rw [decide_eq_true hse]
  go_wp2_with fail
  go_ret
  exact ⟨rfl, Below.on (Below.on HB.out hb2) hb3⟩

set_option maxHeartbeats 1000000 in
theorem long_any (w : World) (A : Option Addr) (n c : Nat) (hn : n ≤ maxLen) : Calls Try.prog 31 #[.slice A n c] w fun e w' => e = .returned (.bool (decide (2000 < n))) ∧ w' = w := by
  unfold maxLen at hn
  have hnc : (n : Int) ≤ 9223372036854775807 := by omega
  go_enter Try.func31, Try.ntmps31
  go_wp2
  go_ret
  exact ⟨retB (by by_cases h : 2000 < n <;> simp <;> omega), rfl⟩
end Go.Proofs.Ytoglnankopdohaa
