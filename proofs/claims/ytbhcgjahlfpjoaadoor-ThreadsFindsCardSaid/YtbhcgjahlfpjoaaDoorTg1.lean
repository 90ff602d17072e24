/- Threads: Find's questions in Bool; what Find keeps, plain. -/
import Derived.Test.YtbhcgjahlfpjoaaDoorTf1
import Derived.Test.YtbhcgjahlfpjoaaDoorTm6
namespace Go.Proofs.YtbhcgjahlfpjoaaDoor
open Go.RowKit

/-- What the next place is. -/
def nxt (l : List (Int × Nat)) (j : Nat) : Int := if (j : Int) < (l.length : Int) - 1 then atAt l ((j : Int) + 1) else 0
/-- Is a thread to be begun; is all over; does one begin too late; is it better. -/
def newB (b : Option (List Int)) (anch : Bool) (j fr : Nat) : Bool := b.isNone && (!anch || decide (j = fr))
def stopB (X1 : List Th) (b : Option (List Int)) (anch : Bool) : Bool := X1.isEmpty && (b.isSome || anch)
def lateB (b : Option (List Int)) (f : List Int) : Bool := match b with | none => false | some c => decide (beg c < beg f)
def upB (b : Option (List Int)) (f : List Int) (lng : Bool) (j : Nat) : Bool := match b with | none => true | some c => decide (beg f < beg c) || !lng || decide (c[1]?.getD 0 < (j : Int))
theorem newB_iff {b : Option (List Int)} {anch : Bool} {j fr : Nat} : newB b anch j fr = true ↔ (b = none ∧ (anch = false ∨ j = fr)) := by
  unfold newB
  cases b <;> cases anch <;> simp
theorem stopB_iff {X1 : List Th} {b : Option (List Int)} {anch : Bool} : stopB X1 b anch = true ↔ (X1 = [] ∧ (b ≠ none ∨ anch = true)) := by
  unfold stopB
  cases b <;> cases anch <;> cases X1 <;> simp
theorem lateB_iff {b : Option (List Int)} {f : List Int} : lateB b f = true ↔ ∃ c, b = some c ∧ beg c < beg f := by
  unfold lateB
  cases b <;> simp
theorem upB_iff {b : Option (List Int)} {f : List Int} {lng : Bool} {j : Nat} : upB b f lng j = true ↔ (b = none ∨ (∃ c, b = some c ∧ beg f < beg c) ∨ lng = false ∨ (∃ c, b = some c ∧ c[1]?.getD 0 < (j : Int))) := by
  unfold upB
  cases b <;> simp [or_assoc]
section
variable {L : List MI} {T R : Nat → MI → Bool} {s0 : Int} {f0 : Nat → List Int} {lng anch : Bool} {fr k j : Nat} {X Y : List Th} {b : Option (List Int)} {t : Th}
theorem findP_go {X1 : List Th} (h1 : X1 = if newB b anch j fr = true then closeL L T j X s0 (f0 j) else X) : findP L T R s0 f0 lng anch fr (k + 1) j X b = if stopB X1 b anch = true then b else findP L T R s0 f0 lng anch fr k (j + 1) (scanP L T R lng j X1 b []).2 (scanP L T R lng j X1 b []).1 := by
  rw [findP]
  simp only [newB_iff] at h1
  simp only [stopB_iff, ← h1]
theorem findN_go {X1 : List Th} (h1 : X1 = if newB b anch j fr = true then closeL L T j X s0 (f0 j) else X) : findN L T R s0 f0 lng anch fr (k + 1) j X b = (if newB b anch j fr = true then (f0 j).length + comeS L (T j) (j : Int) (L.length + 1) X s0 (f0 j) else 0) + if stopB X1 b anch = true then 0 else scanN L T R lng j X1 b [] + findN L T R s0 f0 lng anch fr k (j + 1) (scanP L T R lng j X1 b []).2 (scanP L T R lng j X1 b []).1 := by
  rw [findN]
  simp only [newB_iff] at h1
  simp only [stopB_iff, newB_iff, ← h1]
theorem scan_lateB (h : lateB b t.2 = true) : scanP L T R lng j (t :: X) b Y = (b, Y) ∧ scanN L T R lng j (t :: X) b Y = 1 := by
  rw [lateB_iff] at h
  rw [scanP, scanN, if_pos h, if_pos h]
  exact ⟨rfl, rfl⟩
theorem scan_match {b2 : Option (List Int)} (h : lateB b t.2 = false) (hm : isM L t = true) (hb : b2 = if upB b t.2 lng j = true then some (t.2.set 1 (j : Int)) else b) : scanP L T R lng j (t :: X) b Y = (if lng = false then (b2, Y) else scanP L T R lng j X b2 Y) ∧
    scanN L T R lng j (t :: X) b Y = 1 + (if upB b t.2 lng j = true then t.2.length else 0) + (if lng = false then 0 else scanN L T R lng j X b2 Y) := by
  have h' : ¬ ∃ c, b = some c ∧ beg c < beg t.2 := fun h2 => by rw [lateB_iff.2 h2] at h; cases h
  simp only [upB_iff] at hb ⊢
  rw [scanP, scanN, if_neg h', if_neg h', if_pos hm, if_pos hm, hb]
  exact ⟨rfl, rfl⟩
theorem scan_read {x : MI} (h : lateB b t.2 = false) (hm : isM L t = false) (hx : L[t.1.toNat]? = some x) : scanP L T R lng j (t :: X) b Y = scanP L T R lng j X b (if x.op = 2 ∧ R j x = true then closeL L T (j + 1) Y x.out t.2 else Y) ∧
    scanN L T R lng j (t :: X) b Y = 1 + (if x.op = 2 ∧ R j x = true then comeS L (T (j + 1)) ((j + 1 : Nat) : Int) (L.length + 1) Y x.out t.2 else 0) + scanN L T R lng j X b (if x.op = 2 ∧ R j x = true then closeL L T (j + 1) Y x.out t.2 else Y) := by
  have h' : ¬ ∃ c, b = some c ∧ beg c < beg t.2 := fun h2 => by rw [lateB_iff.2 h2] at h; cases h
  have hm' : ¬ isM L t = true := by rw [hm]; simp
  have hs : step1 L T R j Y t = if x.op = 2 ∧ R j x = true then closeL L T (j + 1) Y x.out t.2 else Y := by unfold step1; rw [hx]
  rw [scanP, scanN, if_neg h', if_neg h', if_neg hm', if_neg hm', hs, hx]
  exact ⟨rfl, rfl⟩
end

theorem own_lower {W : World} {e : TypeId} {base base' size n : Nat} {v : Value} {xs : List Value} (h : W.ownsRow base e size v n xs) (hb : base' ≤ base) : W.ownsRow base' e size v n xs := by
  refine ⟨h.1, ?_⟩
  rcases h.2 with hn | ⟨g, cap, cur, hv, hg, r⟩
  · exact .inl hn
  · exact .inr ⟨g, cap, cur, hv, Nat.le_trans hb hg, r⟩
theorem BestIn.went {B0 : Nat} {W W' : World} {g : Nat} {D1 D2 D1' D2' : LD} {v : Value} {b : Option (List Int)} (h : BestIn B0 W (Ft g D1 D2) v b) (k : Went g D1 D2 D1' D2' W W') : BestIn B0 W' (Ft g D1' D2') v b := by
  cases b with
  | none => exact h
  | some f =>
    refine ⟨k.fit h.1, k.1.own h.2 fun q hq hz => ?_⟩
    obtain ⟨bb, bo, cc, rfl, _, _, _, h4, _⟩ := h.1
    have : bb = q := by simpa [Value.ownBlock] using hq
    subst this
    exact h4 hz
/-- The machine in a Find. -/
def St (w0 W : World) (g bp : Nat) (D1 D2 : LD) (pv : Array Value) (n c : Nat) (L : List MI) (E1 : LD) (X1 : List Th) (n2 : Nat) (Y : List Th) (b : Option (List Int)) (s : Int) (bv : Value) (w : World) : Prop :=
  ∃ cells E2, Mach w0.heap.size w g cells 0 n E1 X1 3 n2 E2 Y s ∧ Went g D1 D2 E1 E2 W w ∧ BestIn W.heap.size w (Ft g E1 E2) bv b ∧ Blk w bp 28 pv ∧ Full L X1 ∧ FitL c X1 ∧ (∀ f, b = some f → f.length = c) ∧ 0 ≤ s
section
variable {w0 W w w' : World} {g bp : Nat} {D1 D2 E1 : LD} {pv : Array Value} {n c n2 : Nat} {L : List MI} {X1 Y : List Th} {b : Option (List Int)} {s : Int} {bv : Value}
theorem St.below (h : St w0 W g bp D1 D2 pv n c L E1 X1 n2 Y b s bv w) (hb : Below w.heap.size w w') : St w0 W g bp D1 D2 pv n c L E1 X1 n2 Y b s bv w' := by
  obtain ⟨cells, E2, hm, hw, hbi, hbx, r⟩ := h
  exact ⟨cells, E2, hm.on hb, hw.below hb, hbi.went ((Went.refl _ _ _ _).below hb), hbx.below hb hbx.lt, r⟩
theorem St.drewN (h : St w0 W g bp D1 D2 pv n c L E1 X1 n2 Y b s bv w) (d : Nat) : St w0 W g bp D1 D2 pv n c L E1 X1 n2 Y b s bv (w.drewN d) := h.below (Below.refl _ _).drewN
theorem St.drew (h : St w0 W g bp D1 D2 pv n c L E1 X1 n2 Y b s bv w) : St w0 W g bp D1 D2 pv n c L E1 X1 n2 Y b s bv w.drew := h.below (Below.refl _ _).drew
theorem St.setS (h : St w0 W g bp D1 D2 pv n c L E1 X1 n2 Y b s bv w) {u : Int} (hu : 0 ≤ u) : St w0 W g bp D1 D2 pv n c L E1 X1 n2 Y b u bv (w.setCell ⟨g, 6, none⟩ (.int .i64 u)) := by
  obtain ⟨cells, E2, hm, hw, hbi, hbx, h1, h2, h3, _⟩ := h
  exact ⟨_, E2, hm.setS u, hw.setG 6 _, hbi.went ((Went.refl _ _ _ _).setG 6 _), hbx.far (p := ⟨g, 6, none⟩) (Blk.ne hbx hm.l1.rows.box (by decide)) _, h1, h2, h3, hu⟩
theorem St.same (h : St w0 W g bp D1 D2 pv n c L E1 X1 n2 Y b s bv w) {lo U : Nat} (hZ : ∀ k, lo ≤ k → k < U → ¬ Ft g D1 D2 k) (hU : U ≤ W.heap.size) : Same lo U W w := by
  obtain ⟨_, _, _, hw, _⟩ := h
  exact hw.same hZ hU
theorem St.c6 (h : St w0 W g bp D1 D2 pv n c L E1 X1 n2 Y b s bv w) : w.cell? ⟨g, 6, none⟩ = some (.int .i64 s) ∧ w.frozen? ⟨g, 6, none⟩ = false := by
  obtain ⟨cells, E2, hm, _⟩ := h
  exact ⟨(hm.l1.rows.box.cell 6).trans hm.c6, hm.l1.rows.box.frozen 6⟩
theorem St.now (h : St w0 W g bp D1 D2 pv n c L E1 X1 n2 Y b s bv w) : w.cell? ⟨g, 1, none⟩ = some (.slice E1.N X1.length E1.kc) ∧ w.cell? ⟨g, 2, none⟩ = some (.slice E1.V X1.length E1.vc) := by
  obtain ⟨cells, E2, hm, _⟩ := h
  exact ⟨(hm.l1.rows.box.cell 1).trans hm.l1.c1, (hm.l1.rows.box.cell 2).trans hm.l1.c2⟩
theorem St.bx {v0 v1 v2 : Value} (h : St w0 W g bp D1 D2 #[v0, v1, v2] n c L E1 X1 n2 Y b s bv w) : w.cell? ⟨bp, 0, none⟩ = some v0 ∧ w.cell? ⟨bp, 1, none⟩ = some v1 ∧ w.cell? ⟨bp, 2, none⟩ = some v2 := by
  obtain ⟨cells, E2, _, _, _, hbx, _⟩ := h
  exact ⟨hbx.cell 0, hbx.cell 1, hbx.cell 2⟩
theorem St.fin (h : St w0 W g bp D1 D2 pv n c L E1 X1 n2 Y b s bv w) {k : Nat} (hk : s = (k : Int)) (d : Nat) : FindB w0.heap.size g D1 D2 W b k (.returned (.tuple #[bv, .bool b.isSome, .int .i64 s])) (w.drewN d) := by
  obtain ⟨cells, E2, hm, hw, hbi, _⟩ := h.drewN d
  exact ⟨bv, E1, E2, by rw [hk], hbi, ⟨cells, n, X1, n2, Y, s, hm⟩, hw⟩
theorem St.best (h : St w0 W g bp D1 D2 pv n c L E1 X1 n2 Y b s bv w) : (b = none ∧ bv = .slice none 0 0) ∨ ∃ f bb bo cc, b = some f ∧ f.length = c ∧ bv = .slice (some ⟨bb, bo, none⟩) c cc ∧ (∀ (i : Nat) (x : Int), f[i]? = some x → w.cell? ⟨bb, bo + i, none⟩ = some (.int .i64 x)) := by
  obtain ⟨cells, E2, _, _, hbi, _, _, _, hbl, _⟩ := h
  cases b with
  | none => exact .inl ⟨rfl, hbi⟩
  | some f =>
    obtain ⟨⟨bb, bo, cc, e, _, _, _, _, hc⟩, _⟩ := hbi
    exact .inr ⟨f, bb, bo, cc, rfl, hbl f rfl, by rw [e, hbl f rfl], hc⟩
end
theorem FitIn.of_blk {W : World} {gr : Nat} {cs : Array Value} {f : List Int} {Z : Nat → Prop} (h : Blk W gr 3 cs) (hcs : cs.toList = i64s f) (hf : f.length ≤ 1000000) (hz : ¬ Z gr) : FitIn W Z (.slice (some ⟨gr, 0, none⟩) f.length f.length) f :=
  ⟨gr, 0, f.length, rfl, Nat.le_refl _, by unfold maxLen; omega, h.lt, hz, fun j x hx => by
    rw [h.cell, Nat.zero_add]
    have := i64s_at hx
    rw [← hcs] at this
    simpa using this⟩
theorem fit0_cells (c j : Nat) (_hc : 0 < c) : ((repL c c).toArray.setIfInBounds 0 (.int .i64 (j : Int))).toList = i64s (fit0 (c : Int) j) := by
  simp [repL, fit0, i64s]
end Go.Proofs.YtbhcgjahlfpjoaaDoor
