/- Threads: both lists of the machine in memory. -/
import Derived.Test.YtbhcgjahlfpjoaaDoorTm4
namespace Go.Proofs.YtbhcgjahlfpjoaaDoor
open Go.RowKit

theorem LsIn.reset {b0 : Nat} {W : World} {Y : Nat → Prop} {g o n : Nat} {cells : Array Value} {X : List Th} {A N V : Option Addr} {na ca kc vc : Nat} {qs : List Int} {vs : List Value}
    (h : LsIn b0 W Y g o n cells X A na ca N kc V vc qs vs) {n' : Nat} (hb0 : b0 ≤ W.heap.size) (hn : n' ≤ 1000000) :
    Calls Tryd.prog 24 #[.pointer (some ⟨g, o, none⟩), .int .i64 (n' : Int)] W fun e W' => e = .returned (.tuple #[]) ∧
      ∃ cells' A' na' ca' qs', LsIn b0 W' Y g o n' cells' [] A' na' ca' N kc V vc qs' [] ∧ Frm (Sl g A N V) W W' ∧ (∀ k, foo3 A' N V k → foo3 A N V k ∨ W.heap.size ≤ k) ∧ (∀ i, i ≠ o → i ≠ o + 1 → i ≠ o + 2 → cells'[i]? = cells[i]?) := by
  refine (reset17_any h.rows hb0 h.c0 h.c1 h.c2 hn).mono ?_
  rintro e W' ⟨rfl, A', na', ca', ats', hna, hats, hR⟩
  obtain ⟨qs', rfl, hpos⟩ : ∃ qs', ats' = i64s qs' ∧ ∀ a ∈ qs', (0 : Int) ≤ a := by
    rcases hats with rfl | rfl
    · exact ⟨qs, rfl, h.pos⟩
    · exact ⟨List.replicate n' 0, by simp [i64s], fun a ha => by obtain ⟨_, rfl⟩ := List.mem_replicate.1 ha; exact Int.le_refl _⟩
  have hz0 : o < cells.size := (Array.getElem?_eq_some_iff.1 h.c0).1
  have hz1 : o + 1 < cells.size := (Array.getElem?_eq_some_iff.1 h.c1).1
  have hz2 : o + 2 < cells.size := (Array.getElem?_eq_some_iff.1 h.c2).1
  refine ⟨rfl, _, A', na', ca', qs', and_assoc.1 (and_assoc.1 ⟨and_assoc.2 (h.step (X' := []) (n' := n') hR ?_ ?_ ?_ rfl hna hpos (fun i t hi => by simp at hi) (fun t ht => by cases ht) (fun i t hi => by simp at hi)), fun i h0 h1 h2 => ?_⟩)⟩
  · rw [Array.getElem?_setIfInBounds_ne (by omega), Array.getElem?_setIfInBounds_ne (by omega), Array.getElem?_setIfInBounds_self_of_lt hz0]
  · rw [Array.getElem?_setIfInBounds_ne (by omega), Array.getElem?_setIfInBounds_self_of_lt (by simpa using hz1)]; rfl
  · rw [Array.getElem?_setIfInBounds_self_of_lt (by simpa using hz2)]; rfl
  · rw [Array.getElem?_setIfInBounds_ne (by omega), Array.getElem?_setIfInBounds_ne (by omega), Array.getElem?_setIfInBounds_ne (by omega)]

/-- Where a list's rows lie. -/
structure LD where
  A : Option Addr
  na : Nat
  ca : Nat
  N : Option Addr
  kc : Nat
  V : Option Addr
  vc : Nat
  qs : List Int
  vs : List Value
def LD.foo (D : LD) (k : Nat) : Prop := foo3 D.A D.N D.V k
def LD.sl (g : Nat) (D : LD) (k : Nat) : Prop := Sl g D.A D.N D.V k
/-- All that the machine may write. -/
def Ft (g : Nat) (D1 D2 : LD) (k : Nat) : Prop := k = g ∨ D1.foo k ∨ D2.foo k
def LD.ls (D : LD) (b0 : Nat) (W : World) (Y : Nat → Prop) (g o n : Nat) (cells : Array Value) (X : List Th) : Prop := LsIn b0 W Y g o n cells X D.A D.na D.ca D.N D.kc D.V D.vc D.qs D.vs
/-- The machine. -/
structure Mach (b0 : Nat) (W : World) (g : Nat) (cells : Array Value) (o1 n1 : Nat) (D1 : LD) (X1 : List Th) (o2 n2 : Nat) (D2 : LD) (X2 : List Th) (s : Int) : Prop where
  l1 : D1.ls b0 W (D2.sl g) g o1 n1 cells X1
  l2 : D2.ls b0 W (D1.sl g) g o2 n2 cells X2
  c6 : cells[6]? = some (.int .i64 s)
  oo : (o1 = 0 ∧ o2 = 3) ∨ (o1 = 3 ∧ o2 = 0)
  bz : b0 ≤ W.heap.size
/-- What is written on the way from one state of the machine to another. -/
def Went (g : Nat) (D1 D2 D1' D2' : LD) (W W' : World) : Prop := Frm (Ft g D1 D2) W W' ∧ ∀ k, Ft g D1' D2' k → Ft g D1 D2 k ∨ W.heap.size ≤ k
section
variable {b0 : Nat} {W W1 W2 W' : World} {g o1 o2 n1 n2 n1' : Nat} {cells cells' : Array Value} {X1 X2 X1' : List Th} {D1 D2 D1' D2' E1 E2 : LD} {s s' : Int}
theorem Went.refl (g : Nat) (D1 D2 : LD) (W : World) : Went g D1 D2 D1 D2 W W := ⟨Frm.refl _ _, fun _ h => .inl h⟩
theorem Went.trans (h : Went g D1 D2 D1' D2' W W1) (h1 : Went g D1' D2' E1 E2 W1 W2) : Went g D1 D2 E1 E2 W W2 := by
  have hs := h.1.size
  refine ⟨h.1.trans h1.1 fun k hk => h.2 k hk, fun k hk => ?_⟩
  rcases h1.2 k hk with h2 | h2
  · exact h.2 k h2
  · right; omega
theorem Ft.symm {k : Nat} (h : Ft g D1 D2 k) : Ft g D2 D1 k := h.imp id Or.symm
theorem Went.symm (h : Went g D1 D2 D1' D2' W W') : Went g D2 D1 D2' D1' W W' := ⟨h.1.mono fun _ h => h.symm, fun k hk => (h.2 k hk.symm).imp Ft.symm id⟩
theorem Went.turn (h : Went g D1 D2 D1' D2' W W') : Went g D1 D2 D2' D1' W W' := ⟨h.1, fun k hk => h.2 k hk.symm⟩
theorem Went.below (h : Went g D1 D2 D1' D2' W W1) (hb : Below W1.heap.size W1 W2) : Went g D1 D2 D1' D2' W W2 := h.trans ⟨.of_below hb, fun _ h => .inl h⟩
theorem Went.drewN (h : Went g D1 D2 D1' D2' W W1) (d : Nat) : Went g D1 D2 D1' D2' W (W1.drewN d) := ⟨h.1.drewN d, h.2⟩
theorem Went.drew (h : Went g D1 D2 D1' D2' W W1) : Went g D1 D2 D1' D2' W W1.drew := ⟨h.1.drew, h.2⟩
theorem Went.fit {v : Value} {f : List Int} (h : Went g D1 D2 D1' D2' W W') (hf : FitIn W (Ft g D1 D2) v f) : FitIn W' (Ft g D1' D2') v f := hf.frm h.1 (fun _ h => h) h.2
theorem Ft.zl {k : Nat} (h : Zl (D2.sl g) D1.A D1.N D1.V k) : Ft g D1 D2 k := by
  rcases h with (h | h) | h
  · exact .inl h
  · exact .inr (.inr h)
  · exact .inr (.inl h)
theorem Ft.lz {k : Nat} (h : Ft g D1 D2 k) : Zl (D2.sl g) D1.A D1.N D1.V k := by
  rcases h with h | h | h
  · exact .inl (.inl h)
  · exact .inr h
  · exact .inl (.inr h)
theorem Mach.symm (h : Mach b0 W g cells o1 n1 D1 X1 o2 n2 D2 X2 s) : Mach b0 W g cells o2 n2 D2 X2 o1 n1 D1 X1 s := ⟨h.l2, h.l1, h.c6, h.oo.symm.imp And.symm And.symm, h.bz⟩
/-- The first list is written. -/
theorem Mach.upd (h : Mach b0 W g cells o1 n1 D1 X1 o2 n2 D2 X2 s) (l : D1'.ls b0 W' (D2.sl g) g o1 n1' cells' X1') (hf : Frm (D1.sl g) W W') (hft : ∀ k, D1'.foo k → D1.foo k ∨ W.heap.size ≤ k)
    (hc : ∀ i, i ≠ o1 → i ≠ o1 + 1 → i ≠ o1 + 2 → i ≠ 6 → cells'[i]? = cells[i]?) (h6 : cells'[6]? = some (.int .i64 s')) :
    Mach b0 W' g cells' o1 n1' D1' X1' o2 n2 D2 X2 s' ∧ Went g D1 D2 D1' D2 W W' := by
  have hW : Went g D1 D2 D1' D2 W W' := ⟨hf.mono fun k hk => hk.imp id .inl, fun k hk => by
    rcases hk with hk | hk | hk
    · exact .inl (.inl hk)
    · exact (hft k hk).imp (fun h => .inr (.inl h)) id
    · exact .inl (.inr (.inr hk))⟩
  have l2 := h.l2
  have hne : ∀ k, foo3 D2.A D2.N D2.V k → ¬ D1.sl g k := fun k hk => l2.sepY k hk
  have own : ∀ {e : TypeId} {v : Value} {m : Nat} {xs : List Value}, W.ownsRow b0 e 1 v m xs → (∀ k, v.ownBlock = some k → foo3 D2.A D2.N D2.V k) → W'.ownsRow b0 e 1 v m xs := fun ho hv => hf.own ho fun k hk => hne k (hv k hk)
  have hoo := h.oo
  refine ⟨⟨l, ⟨⟨Frm.refl _ _, l.rows.box, own l2.rows.oa fun k hk => (foo3_iff D2.A D2.N D2.V D2.na D2.ca X2.length D2.kc X2.length D2.vc k).1 (.inl hk), own l2.rows.on fun k hk => (foo3_iff D2.A D2.N D2.V D2.na D2.ca X2.length D2.kc X2.length D2.vc k).1 (.inr (.inl hk)), own l2.rows.ov fun k hk => (foo3_iff D2.A D2.N D2.V D2.na D2.ca X2.length D2.kc X2.length D2.vc k).1 (.inr (.inr hk)), l2.rows.san, fun k hk => .inl (.inr ((foo3_iff ..).1 hk)), l2.rows.hg⟩,
    (hc _ (by omega) (by omega) (by omega) (by omega)).trans l2.c0, (hc _ (by omega) (by omega) (by omega) (by omega)).trans l2.c1, (hc _ (by omega) (by omega) (by omega) (by omega)).trans l2.c2, l2.vl, l2.big, l2.pos, l2.at_, l2.pcs, fun i t hi => ?_, .inl rfl, fun k hk => ?_, fun k hk hy => ?_⟩, h6, h.oo, Nat.le_trans h.bz hf.size⟩, hW⟩
  · obtain ⟨v, hv, hfi⟩ := l2.fits i t hi
    refine ⟨v, hv, hfi.frm hf (fun k hk => .inl hk) (fun k hk => ?_)⟩
    rcases hk with (hk | hk) | hk
    · exact .inl (.inl (.inl hk))
    · exact (hft k hk).imp (fun h => .inl (.inr h)) id
    · exact .inl (.inr hk)
  · rcases hk with rfl | hk
    · exact l.rows.box.lt
    · exact (l.blo k hk).2
  · rcases hy with rfl | hy
    · exact hne k hk (.inl rfl)
    · rcases hft k hy with h1 | h1
      · exact hne k hk (.inr h1)
      · have := (l2.blo k hk).2; omega
theorem Mach.on (h : Mach b0 W g cells o1 n1 D1 X1 o2 n2 D2 X2 s) (hb : Below W.heap.size W W') : Mach b0 W' g cells o1 n1 D1 X1 o2 n2 D2 X2 s := ⟨h.l1.on hb, h.l2.on hb, h.c6, h.oo, Nat.le_trans h.bz hb.size⟩
theorem Mach.drewN (h : Mach b0 W g cells o1 n1 D1 X1 o2 n2 D2 X2 s) (d : Nat) : Mach b0 (W.drewN d) g cells o1 n1 D1 X1 o2 n2 D2 X2 s := h.on (Below.refl _ _).drewN
theorem Mach.drew (h : Mach b0 W g cells o1 n1 D1 X1 o2 n2 D2 X2 s) : Mach b0 W.drew g cells o1 n1 D1 X1 o2 n2 D2 X2 s := h.on (Below.refl _ _).drew
theorem Mach.setS (h : Mach b0 W g cells o1 n1 D1 X1 o2 n2 D2 X2 s) (u : Int) : Mach b0 (W.setCell ⟨g, 6, none⟩ (.int .i64 u)) g (cells.setIfInBounds 6 (.int .i64 u)) o1 n1 D1 X1 o2 n2 D2 X2 u := by
  have hoo := h.oo
  exact ⟨h.l1.setG 6 _ (by omega) (by omega) (by omega), h.l2.setG 6 _ (by omega) (by omega) (by omega), Array.getElem?_setIfInBounds_self_of_lt (Array.getElem?_eq_some_iff.1 h.c6).1, h.oo, by simp only [World.setCell, Array.size_modify]; exact h.bz⟩
theorem Went.setG (h : Went g D1 D2 D1' D2' W W1) (i : Nat) (u : Value) : Went g D1 D2 D1' D2' W (W1.setCell ⟨g, i, none⟩ u) := ⟨h.1.set (.inl (.inl rfl)) u, h.2⟩
theorem Mach.bel (h : Mach b0 W g cells o1 n1 D1 X1 o2 n2 D2 X2 s) (k : Went g D1 D2 D1' D2' W W') : Bel b0 g W W' :=
  ⟨k.1.size, fun q hq hg => k.1.block q (by have := h.bz; omega) fun hs => by
    rcases hs with hs | hs | hs
    · exact hg hs
    · have := (h.l1.blo q hs).1; omega
    · have := (h.l2.blo q hs).1; omega⟩
theorem Mach.ftlt (h : Mach b0 W g cells o1 n1 D1 X1 o2 n2 D2 X2 s) : ∀ k, Ft g D1 D2 k → True ∧ k < W.heap.size := by
  rintro k (rfl | hk | hk)
  · exact ⟨trivial, h.l1.rows.box.lt⟩
  · exact ⟨trivial, (h.l1.blo k hk).2⟩
  · exact ⟨trivial, (h.l2.blo k hk).2⟩
theorem Mach.ne (h : Mach b0 W g cells o1 n1 D1 X1 o2 n2 D2 X2 s) {b : Nat} {t : TypeId} {cs : Array Value} (hB : Blk W b t cs) (h1 : 3 ≠ t) (h2 : 35 ≠ t) (h3 : 73 ≠ t) : ¬ Ft g D1 D2 b := by
  rintro (h4 | h4 | h4)
  · exact h.l1.ne hB h1 h2 h3 (.inl h4)
  · exact h.l1.ne hB h1 h2 h3 (.inr h4)
  · exact h.l2.ne hB h1 h2 h3 (.inr h4)
/-- The machine's own block alone is written. -/
theorem LsIn.recell {Y : Nat → Prop} {o o' n : Nat} {X : List Th} {A N V : Option Addr} {na ca kc vc : Nat} {qs : List Int} {vs : List Value} (h : LsIn b0 W Y g o n cells X A na ca N kc V vc qs vs) (hf : Frm (fun k => k = g) W W') (hB : Blk W' g 73 cells')
    (c0 : cells'[o']? = some (.slice A na ca)) (c1 : cells'[o' + 1]? = some (.slice N X.length kc)) (c2 : cells'[o' + 2]? = some (.slice V X.length vc)) : LsIn b0 W' Y g o' n cells' X A na ca N kc V vc qs vs := by
  have hne : ∀ k, foo3 A N V k → ¬ k = g := fun k hk e => h.sepY k hk (e ▸ h.yg)
  have own : ∀ {e : TypeId} {v : Value} {m : Nat} {xs : List Value}, W.ownsRow b0 e 1 v m xs → (∀ k, v.ownBlock = some k → foo3 A N V k) → W'.ownsRow b0 e 1 v m xs := fun ho hv => hf.own ho fun k hk => hne k (hv k hk)
  refine ⟨⟨Frm.refl _ _, hB, own h.rows.oa fun k hk => (foo3_iff A N V na ca X.length kc X.length vc k).1 (.inl hk), own h.rows.on fun k hk => (foo3_iff A N V na ca X.length kc X.length vc k).1 (.inr (.inl hk)), own h.rows.ov fun k hk => (foo3_iff A N V na ca X.length kc X.length vc k).1 (.inr (.inr hk)), h.rows.san, fun k hk => .inl (.inr ((foo3_iff ..).1 hk)), h.rows.hg⟩, c0, c1, c2, h.vl, h.big, h.pos, h.at_, h.pcs, fun i t hi => ?_, h.yg, fun k hk => Nat.lt_of_lt_of_le (h.ylt k hk) hf.size, h.sepY⟩
  obtain ⟨v, hv, hfi⟩ := h.fits i t hi
  exact ⟨v, hv, hfi.frm hf (fun k hk => .inl (by subst hk; exact h.yg)) fun k hk => .inl hk⟩
end
end Go.Proofs.YtbhcgjahlfpjoaaDoor
