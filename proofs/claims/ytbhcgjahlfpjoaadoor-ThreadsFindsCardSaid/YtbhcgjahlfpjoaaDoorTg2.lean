/- Threads: a thread of the machine's list. -/
import Derived.Test.YtbhcgjahlfpjoaaDoorTg1
namespace Go.Proofs.YtbhcgjahlfpjoaaDoor
open Go.RowKit

section
variable {w0 W w w' : World} {g bp : Nat} {D1 D2 E1 E2 : LD} {n c n2 : Nat} {L : List MI} {X1 Y : List Th} {b : Option (List Int)} {s : Int} {bv : Value} {cells : Array Value}
theorem Mach.thread (hm : Mach w0.heap.size w g cells 0 n E1 X1 3 n2 E2 Y s) (hfl : FitL c X1) (_hc : 0 < c) {p : Nat} (hp : p < X1.length) : ∃ (q : Nat) (fit : List Int) (bn on bw ow fb fo fcc : Nat), X1[p]? = some ((q : Int), fit) ∧ q < n ∧ fit.length = c ∧ E1.N = some ⟨bn, on, none⟩ ∧ E1.V = some ⟨bw, ow, none⟩ ∧
    (∀ W', Same 0 w.heap.size w W' → W'.cell? ⟨bn, on + p, none⟩ = some (.int .i64 (q : Int))) ∧ w.cell? ⟨bw, ow + p, none⟩ = some (.slice (some ⟨fb, fo, none⟩) c fcc) ∧ FitIn w (Ft g E1 E2) (.slice (some ⟨fb, fo, none⟩) c fcc) fit := by
  have hx : X1[p]? = some X1[p] := List.getElem?_eq_getElem hp
  obtain ⟨bn, on, x, hN, _, hx2, hcn⟩ := hm.l1.ilN.at hp
  rw [List.getElem?_map, hx, Option.map_some] at hx2
  injection hx2 with hx2
  obtain ⟨h0, h1⟩ := hm.l1.pcs _ (List.getElem_mem hp)
  obtain ⟨v, hv, hf⟩ := hm.l1.fits p _ hx
  have hfl' := hfl _ (List.getElem_mem hp)
  obtain ⟨fb, fo, fcc, rfl, hr⟩ := hf
  have hov := hm.l1.rows.ov
  have hvl := hm.l1.vl
  rw [hvl] at hov
  obtain ⟨gv, cap, hv2, _, _⟩ := hov.form (by omega)
  injection hv2 with hv2 _ _
  have hcv := hov.cells (g := gv) (by rw [hv2]; rfl) p _ hv
  refine ⟨X1[p].1.toNat, X1[p].2, bn, on, gv, 0, fb, fo, fcc, by rw [hx]; congr 1; exact Prod.ext (by simp only; omega) rfl, by omega, hfl', hN, hv2, fun W' hW => ?_, ?_, ?_⟩
  · rw [hcn W' hW, ← hx2]; congr 2; omega
  · rw [hfl'] at hcv
    rcases Nat.eq_zero_or_pos p with h0 | h0
    · subst h0; simpa [Addr.add] using hcv
    · simpa [Addr.add, Nat.pos_iff_ne_zero.1 h0] using hcv
  · rw [← hfl']
    exact (show FitIn w (Zl (E2.sl g) E1.A E1.N E1.V) (.slice (some ⟨fb, fo, none⟩) X1[p].2.length fcc) X1[p].2 from ⟨fb, fo, fcc, rfl, hr⟩).mono fun k hk => .inl (Ft.lz hk)
theorem FitIn.cell {Z : Nat → Prop} {fb fo c fcc : Nat} {f : List Int} (h : FitIn w Z (.slice (some ⟨fb, fo, none⟩) c fcc) f) {i : Nat} (hi : i < f.length) : w.cell? ⟨fb, fo + i, none⟩ = some (.int .i64 (f[i]?.getD 0)) := by
  obtain ⟨b, o, cc, e, _, _, _, _, hc⟩ := h
  injection e with e _ _
  injection e with e
  injection e with e1 e2 _
  subst e1; subst e2
  exact hc i _ (by rw [List.getElem?_eq_getElem hi]; rfl)
theorem beg_eq (f : List Int) : beg f = f[0]?.getD 0 := rfl
theorem isM_eq {q : Nat} {fit : List Int} {y : MI} (hy : L[q]? = some y) : isM L ((q : Int), fit) = (y.op == 1) := by
  unfold isM
  simp only [Int.toNat_natCast, hy]
theorem drop_cons {p : Nat} {t : Th} (h : X1[p]? = some t) : X1.drop p = t :: X1.drop (p + 1) := by
  obtain ⟨hlt, he⟩ := List.getElem?_eq_some_iff.1 h
  rw [List.drop_eq_getElem_cons hlt, he]
end
/-- The lists change places. -/
def swapW (g : Nat) (D1 D2 : LD) (m1 m2 : Nat) (V : World) : World :=
  (((((V.setCell ⟨g, 0, none⟩ (.slice D2.A D2.na D2.ca)).setCell ⟨g, 1, none⟩ (.slice D2.N m2 D2.kc)).setCell ⟨g, 2, none⟩ (.slice D2.V m2 D2.vc)).setCell ⟨g, 3, none⟩ (.slice D1.A D1.na D1.ca)).setCell ⟨g, 4, none⟩ (.slice D1.N m1 D1.kc)).setCell ⟨g, 5, none⟩ (.slice D1.V m1 D1.vc)
theorem Mach.swap {b0 : Nat} {V : World} {g n1 n2 : Nat} {cells : Array Value} {X1 X2 : List Th} {D1 D2 : LD} {s : Int} (h : Mach b0 V g cells 0 n1 D1 X1 3 n2 D2 X2 s) :
    ∃ cells', Mach b0 (swapW g D1 D2 X1.length X2.length V) g cells' 0 n2 D2 X2 3 n1 D1 X1 s ∧ Went g D1 D2 D2 D1 V (swapW g D1 D2 X1.length X2.length V) ∧ Frm (fun k => k = g) V (swapW g D1 D2 X1.length X2.length V) := by
  have st : ∀ {V' : World}, Frm (fun k => k = g) V V' → ∀ (i : Nat) (u : Value), Frm (fun k => k = g) V (V'.setCell ⟨g, i, none⟩ u) := fun h i u => h.set (p := ⟨g, i, none⟩) (.inl rfl) u
  have hf : Frm (fun k => k = g) V (swapW g D1 D2 X1.length X2.length V) := by
    unfold swapW
    exact st (st (st (st (st (st (Frm.refl _ V) 0 _) 1 _) 2 _) 3 _) 4 _) 5 _
  have hB := (((((h.l1.rows.box.set 0 (.slice D2.A D2.na D2.ca)).set 1 (.slice D2.N X2.length D2.kc)).set 2 (.slice D2.V X2.length D2.vc)).set 3 (.slice D1.A D1.na D1.ca)).set 4 (.slice D1.N X1.length D1.kc)).set 5 (.slice D1.V X1.length D1.vc)
  have hz : 6 < cells.size := (Array.getElem?_eq_some_iff.1 h.c6).1
  refine ⟨_, ⟨h.l2.recell hf hB ?_ ?_ ?_, h.l1.recell hf hB ?_ ?_ ?_, ?_, .inl ⟨rfl, rfl⟩, Nat.le_trans h.bz hf.size⟩, ⟨hf.mono fun k hk => .inl hk, fun k hk => .inl hk.symm⟩, hf⟩
  case refine_7 =>
    rw [Array.getElem?_setIfInBounds_ne (by decide), Array.getElem?_setIfInBounds_ne (by decide), Array.getElem?_setIfInBounds_ne (by decide), Array.getElem?_setIfInBounds_ne (by decide), Array.getElem?_setIfInBounds_ne (by decide), Array.getElem?_setIfInBounds_ne (by decide)]
    exact h.c6
  case refine_1 =>
    rw [Array.getElem?_setIfInBounds_ne (by decide), Array.getElem?_setIfInBounds_ne (by decide), Array.getElem?_setIfInBounds_ne (by decide), Array.getElem?_setIfInBounds_ne (by decide), Array.getElem?_setIfInBounds_ne (by decide)]
    exact Array.getElem?_setIfInBounds_self_of_lt (by omega)
  all_goals (simp only [Array.getElem?_setIfInBounds, Array.size_setIfInBounds]; simp (disch := omega) []; try omega)
end Go.Proofs.YtbhcgjahlfpjoaaDoor
