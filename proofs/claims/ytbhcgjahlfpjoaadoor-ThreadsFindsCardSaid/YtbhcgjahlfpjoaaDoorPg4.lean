/- Check: the program's and the reference's. -/
import Derived.Test.YtbhcgjahlfpjoaaDoorPg3
namespace Go.Proofs.YtbhcgjahlfpjoaaDoor
open Go.RowKit

set_option maxHeartbeats 2000000 in
theorem indexP_any {w : World} {A : Option Addr} {n c : Nat} {l : List MI} (hA : PgIn w A n c l) (p : MI → Bool) (gf : Nat) (lb : Array Value) (eg : ∀ args w, (callFunc gf args).run Tryd.prog w = .ok (.enter gf args) w)
    (hp : ∀ (W : World) (x : MI), x ∈ l → Below w.heap.size w W → Calls Tryd.prog gf (#[.agg x.cells.toArray] ++ lb) W fun e w' => e = .returned (.bool (p x)) ∧ Below W.heap.size W w') :
    Calls Tryd.prog 54 #[.slice A n c, .func (.func gf) #[] lb] w fun e w' => (∃ k : Int, e = .returned (.int .i64 k) ∧ decide (0 ≤ k) = l.any p) ∧ Below w.heap.size w w' := by
  have h1 := hA.max
  have h2 := hA.le
  unfold maxLen at h1
  have hnc : (n : Int) ≤ 9223372036854775807 := by omega
  have HA := Lib.hid hA
  have HPR := Lib.hid hp
  clear hA h1 h2 hp
  go_enter Tryd.func54, Tryd.ntmps54
  go_wp2_with fail
  go_loopg [5, 8] (n + 1) (fun q _ i wr => ∃ (j : Nat), q = n + 1 - j ∧ j ≤ n ∧ i = .int .i64 (j : Int) ∧ Hid (Below w.heap.size w wr ∧ ∀ k x, k < j → l[k]? = some x → p x = false))
  case atStart => exact ⟨0, rfl, by omega, rfl, Lib.hid ⟨Below.refl _ _, by intro k x hk; omega⟩⟩
  case round =>
    obtain ⟨j, hgk, hj, rfl, HR⟩ := hrel
    have HG := Lib.hid hgk
    clear hgk
    by_cases hlt : j < n
    · obtain ⟨b, o, x, rfl, hb, hx, _, hc⟩ := HA.out.at hlt
      obtain ⟨c1, c2, c3, c4, c5⟩ := hc wr (.of_below HR.out.1 (Nat.le_refl _))
      have hi : (j : Int) < (n : Int) := by omega
      have hcall := HPR.out wr x (List.mem_of_getElem? hx) HR.out.1
      have HX := Lib.hid hx
      have HLT := Lib.hid hlt
      clear hc hb hx hlt HA HPR
      simp only [MI.cells] at hcall
      cases hq : p x with
      | true =>
        rw [hq] at hcall
        have hyes : l.any p = true := List.any_eq_true.2 ⟨x, List.mem_of_getElem? HX.out, hq⟩
        go_wp2_with (go_at_fn gf; refine hcall.mono ?_; rintro e w' ⟨rfl, hb'⟩)
        go_ret
        exact ⟨⟨_, rfl, by rw [hyes]; simp⟩, HR.out.1.trans (hb'.mono HR.out.1.size)⟩
      | false =>
        rw [hq] at hcall
        go_wp2_with (go_at_fn gf; refine hcall.mono ?_; rintro e w' ⟨rfl, hb'⟩)
        go_roundg (n + 1 - (j + 1))
        case measure => have := HG.out; have := HLT.out; omega
        case rel =>
          refine ⟨j + 1, rfl, by have := HLT.out; omega, by go_num, Lib.hid ⟨HR.out.1.trans (hb'.mono HR.out.1.size), fun k y hk hy => ?_⟩⟩
          rcases Nat.lt_succ_iff_lt_or_eq.1 hk with h | h
          · exact HR.out.2 k y h hy
          · subst h; rw [HX.out] at hy; injection hy with hy; subst hy; exact hq
    · have hi : ¬ (j : Int) < (n : Int) := by omega
      have hno : l.any p = false := by
        rw [List.any_eq_false]
        intro x hx
        obtain ⟨k, hk, rfl⟩ := List.getElem_of_mem hx
        rw [HR.out.2 k _ (by have := HA.out.len; omega) (List.getElem?_eq_getElem hk)]
        simp
      clear hlt
      go_wp2_with fail
      go_ret
      exact ⟨⟨_, rfl, by first | (rw [hno]; rfl) | decide⟩, HR.out.1⟩

set_option maxHeartbeats 1000000 in
theorem containsP_any {w : World} {A : Option Addr} {n c : Nat} {l : List MI} (hA : PgIn w A n c l) (p : MI → Bool) (gf : Nat) (lb : Array Value) (eg : ∀ args w, (callFunc gf args).run Tryd.prog w = .ok (.enter gf args) w)
    (hp : ∀ (W : World) (x : MI), x ∈ l → Below w.heap.size w W → Calls Tryd.prog gf (#[.agg x.cells.toArray] ++ lb) W fun e w' => e = .returned (.bool (p x)) ∧ Below W.heap.size W w') :
    Calls Tryd.prog 41 #[.slice A n c, .func (.func gf) #[] lb] w fun e w' => e = .returned (.bool (l.any p)) ∧ Below w.heap.size w w' := by
  have hcon := indexP_any hA p gf lb eg hp
  clear hA hp
  go_enter Tryd.func41, Tryd.ntmps41
  go_wp2_with (go_at_call 54; refine hcon.mono ?_; rintro e w' ⟨⟨k, rfl, hk⟩, hb'⟩)
  go_ret
  first
    | exact ⟨retB hk, hb'⟩
    | exact ⟨rfl, hb'⟩

/-- Is it a program? -/
def PgOK (n : Nat) (st cp : Int) (L : List MI) : Prop := 1 ≤ n ∧ n ≤ 10000 ∧ 0 ≤ st ∧ st < n ∧ 2 ≤ cp ∧ cp ≤ 4002 ∧ cp % 2 = 0 ∧ ∀ x ∈ L, InstOK n cp x
def ChkB (n : Nat) (st cp : Int) (L : List MI) (w : World) (e : Ending) (w' : World) : Prop := ∃ v, e = .returned (.int .i64 v) ∧ (v = 0 ∧ PgOK n st cp L ∨ v = 121 ∧ ¬ PgOK n st cp L) ∧ Below w.heap.size w w'
theorem chk_no {n : Nat} {st cp : Int} {L : List MI} {w w' : World} (h : ¬ PgOK n st cp L) (hb : Below w.heap.size w w') : ChkB n st cp L w (.returned (.int .i64 121)) w' := ⟨_, rfl, .inr ⟨rfl, h⟩, hb⟩
theorem chk_yes {n : Nat} {st cp : Int} {L : List MI} {w w' : World} (h : PgOK n st cp L) (hb : Below w.heap.size w w') : ChkB n st cp L w (.returned (.int .i64 0)) w' := ⟨_, rfl, .inl ⟨rfl, h⟩, hb⟩
open Classical in
noncomputable def okB (n : Nat) (cp : Int) (x : MI) : Bool := decide (InstOK n cp x)
open Classical in
theorem okB_iff (n : Nat) (cp : Int) (x : MI) : okB n cp x = true ↔ InstOK n cp x := by unfold okB; exact decide_eq_true_iff
theorem any_not (n : Nat) (cp : Int) (L : List MI) : (L.any fun x => !okB n cp x) = false ↔ ∀ x ∈ L, InstOK n cp x := by
  rw [List.any_eq_false]
  constructor
  · intro h x hx
    have := h x hx
    rw [← okB_iff]
    simpa using this
  · intro h x hx
    have := (okB_iff n cp x).2 (h x hx)
    simp [this]
set_option maxHeartbeats 1000000 in
theorem check1_any {w : World} {g : Nat} {A : Option Addr} {n c : Nat} {st cp : Int} (x : MI) (hx : x.In w) (hB : Blk w g 28 #[.slice A n c, .int .i64 st, .int .i64 cp]) (hn : n ≤ maxLen) (hs : x.n ≤ 1000000) :
    Calls Tryd.prog 42 #[.agg x.cells.toArray, .pointer (some ⟨g, 0, none⟩)] w fun e w' => e = .returned (.bool (!okB n cp x)) ∧ Below w.heap.size w w' := by
  have hb : Below w.heap.size w (w.alloc (.cells x.cells.toArray 64)) := (Below.refl _ _).alloc (Nat.le_refl _) _
  have hr := pright_any (A := A) (n := n) (c := c) (st := st) (cp := cp) x (hx.below hb) hn hs
  have hB2 := hB.alloc (.cells x.cells.toArray 64)
  have hX := Blk.new w 64 x.cells.toArray
  have p0 := hB2.cell 0
  have p1 := hB2.cell 1
  have p2 := hB2.cell 2
  have x0 := hX.cell 0
  have x1 := hX.cell 1
  have x2 := hX.cell 2
  have x3 := hX.cell 3
  have x4 := hX.cell 4
  simp only [List.getElem?_toArray, List.getElem?_cons_zero, List.getElem?_cons_succ, MI.cells] at p0 p1 p2 x0 x1 x2 x3 x4
  simp only [MI.cells] at hr
  have HB := Lib.hid hb
  clear hb hB hB2 hX hx hn hs
  simp only [MI.cells]
  go_enter Tryd.func42, Tryd.ntmps42
  go_wp2_with fail
  refine hr.mono ?_
  rintro e w5 ⟨b, rfl, hb5, hbe⟩
  obtain rfl : b = okB n cp x := by rw [Bool.eq_iff_iff, hb5, okB_iff]
  have HB5 := Lib.hid (HB.out.trans (hbe.mono HB.out.size))
  clear hr hb5 hbe
  go_wp2_with fail
  go_ret
  exact ⟨rfl, HB5.out⟩
end Go.Proofs.YtbhcgjahlfpjoaaDoor
