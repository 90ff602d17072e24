/- decode: a text's runes, one behind the other. -/
import Derived.Test.YtkiljhlbeffnfaaDoorIn5
import Derived.Lib.OthersKept
namespace Go.Proofs.YtkiljhlbeffnfaaDoor
open Go.RowKit

theorem elS : ElemOK Tryd.prog 30 59 2 16 := .mk' (z := .agg #[.int .i32 0, .int .i64 0]) Tryd.underlying30 (by kernel_rfl) rfl (by decide)
theorem symCells_one (l : List (Int × Nat)) : ∀ u ∈ symCells l, u.oneCell' = true := by
  intro u hu
  simp only [symCells, List.mem_flatMap, List.mem_cons, List.not_mem_nil, or_false] at hu
  obtain ⟨p, _, rfl | rfl⟩ := hu <;> rfl

theorem grownBy_alloc' {w w' : World} {row : Option Nat} (h : w.grownBy w' row) (o : Obj) : w.grownBy (w'.alloc o) row :=
  ⟨h.os, h.tape, h.output, by have := h.size; simp; omega, fun k hk hr => (Below.heap_alloc _ _ _ (by have := h.size; omega)).trans (h.block k hk hr)⟩
theorem grownBy_setCell' {w w' : World} {g : Nat} (h : w.grownBy w' (some g)) (i : Nat) (u : Value) : w.grownBy (w'.setCell ⟨g, i, none⟩ u) (some g) :=
  ⟨h.os, h.tape, h.output, by have := h.size; simp [World.setCell]; omega, fun k hk hr => (Below.heap_setCell _ _ _ _ (fun e => hr (by rw [e]))).trans (h.block k hk hr)⟩
/-- A step that writes a row of the call's own. -/
theorem grownBy_own' {w w' w'' : World} {row r2 : Option Nat} (h : w.grownBy w' row) (h2 : w'.grownBy w'' r2) (hr : ∀ k, r2 = some k → w.heap.size ≤ k) : w.grownBy w'' row :=
  ⟨h2.os.trans h.os, h2.tape.trans h.tape, h2.output.trans h.output, Nat.le_trans h.size h2.size, fun k hk hne => (h2.block k (by have := h.size; omega) (fun e => by have := hr k e.symm; omega)).trans (h.block k hk hne)⟩
theorem ownsRow_far {w w' : World} {base : Nat} {e : TypeId} {size n : Nat} {v : Value} {xs : List Value} (h : w.ownsRow base e size v n xs) (hs : ∀ k, v.ownBlock = some k → w'.heap[k]? = w.heap[k]?) : w'.ownsRow base e size v n xs := by
  obtain ⟨h1, h2⟩ := h
  refine ⟨h1, ?_⟩
  rcases h2 with h2 | ⟨g, cap, cur, hv, hg, hh, r⟩
  · exact .inl h2
  · exact .inr ⟨g, cap, cur, hv, hg, (hs g (by rw [hv]; rfl)).trans hh, r⟩

/-- What holds when m runes have been read. -/
structure DecRel (w wr : World) (g : Nat) (t : TypeId) (cs : Array Value) (s : ByteArray) (m : Nat) (v : Value) : Prop where
  lt : ∀ k, k < m → posN s k < s.size
  it : wr.heap[w.heap.size]? = some (.stringIter s (posN s m))
  blk : Blk wr g t (cs.setIfInBounds 0 v)
  own : wr.ownsRow (w.heap.size + 1) 59 2 v m (symCells (pre s m))
  grown : w.grownBy wr (some g)

theorem run_next_ok {P : Program} {wr : World} {gi : Nat} {s : ByteArray} {p : Nat} (hit : wr.heap[gi]? = some (.stringIter s p)) (hp : p < s.size) : ∃ W1, (∀ ty, (Instr.next (.pointer (some ⟨gi, 0, none⟩)) true ty).run P wr = .ok (.tuple #[.bool true, .int .i64 (p : Int), .int .i32 ((Utf8.decode s p).1 : Nat)]) W1) ∧
    W1 = wr.iterAt gi s (p + (Utf8.decode s p).2) := ⟨_, fun ty => Lib.run_next_any_at wr gi s p ty hit hp, rfl⟩

/-- The step: one rune read, appended, stored back. -/
theorem DecRel.step {w wr W2 : World} {g : Nat} {t : TypeId} {cs : Array Value} {s : ByteArray} {m : Nat} {v v' : Value} (h : DecRel w wr g t cs s m v) (hg : g < w.heap.size) (ht : 59 ≠ t) (hp : posN s m < s.size)
    (hown : W2.ownsRow (w.heap.size + 1) 59 2 v' (m + 1) (symCells (pre s m) ++ [.int .i32 ((Utf8.decode s (posN s m)).1 : Nat), .int .i64 (posN s m : Int)]))
    (o : Obj) (hgr : ((wr.iterAt w.heap.size s (posN s (m + 1))).alloc o).grownBy W2 v.ownBlock) : 
    Blk W2 g t (cs.setIfInBounds 0 v) ∧ DecRel w (W2.setCell ⟨g, 0, none⟩ v') g t cs s (m + 1) v' := by
  have hlt : w.heap.size < wr.heap.size := (Array.getElem?_eq_some_iff.1 h.it).1
  have hb : ∀ k, v.ownBlock = some k → w.heap.size + 1 ≤ k := fun k hk => (h.own.lt k hk).1
  have hne : g ≠ w.heap.size := by omega
  have hgrown : w.grownBy ((wr.iterAt w.heap.size s (posN s (m + 1))).alloc o) (some g) := by
    have h1 : w.grownBy (wr.iterAt w.heap.size s (posN s (m + 1))) (some g) :=
      ⟨h.grown.os, h.grown.tape, h.grown.output, by rw [Lib.iterAt_size]; exact h.grown.size, fun k hk hr => (Lib.iterAt_other _ _ _ _ _ (by omega)).trans (h.grown.block k hk hr)⟩
    exact grownBy_alloc' h1 o
  have hsz : ((wr.iterAt w.heap.size s (posN s (m + 1))).alloc o).heap.size = wr.heap.size + 1 := by simp [Lib.iterAt_size]
  have hblk : Blk W2 g t (cs.setIfInBounds 0 v) := by
    refine (hgr.block g (by omega) (fun e => ?_)).trans ((Below.heap_alloc _ _ _ (by rw [Lib.iterAt_size]; omega)).trans ((Lib.iterAt_other _ _ _ _ _ hne).trans h.blk))
    have := hb g e.symm
    omega
  have hit : W2.heap[w.heap.size]? = some (.stringIter s (posN s (m + 1))) := by
    refine (hgr.block _ (by omega) (fun e => ?_)).trans ((Below.heap_alloc _ _ _ (by rw [Lib.iterAt_size]; omega)).trans (Lib.iterAt_heap _ _ _ _ _ h.it))
    have := hb _ e.symm
    omega
  refine ⟨hblk, ?_, ?_, ?_, ?_, ?_⟩
  · intro k hk
    rcases Nat.lt_succ_iff_lt_or_eq.1 hk with h1 | h1
    · exact h.lt k h1
    · subst h1; exact hp
  · exact (Below.heap_setCell _ _ _ _ (by exact Ne.symm hne)).trans hit
  · have := hblk.set 0 v'
    rwa [show (cs.setIfInBounds 0 v).setIfInBounds 0 v' = cs.setIfInBounds 0 v' by simp [Array.setIfInBounds_setIfInBounds]] at this
  · have he : symCells (pre s (m + 1)) = symCells (pre s m) ++ [.int .i32 ((Utf8.decode s (posN s m)).1 : Nat), .int .i64 (posN s m : Int)] := by rw [pre_succ, symCells_append]; rfl
    rw [he]
    exact ownsRow_far hown fun k hk => Below.heap_setCell _ _ _ _ (fun e => own_ne_blk hown hblk ht (by rw [hk, e]))
  · exact grownBy_setCell' (grownBy_own' hgrown hgr fun k hk => by have := hb k hk; omega) 0 v'

set_option maxHeartbeats 1000000 in
theorem decode_any {w : World} {g : Nat} {t : TypeId} {cs : Array Value} (hB : Blk w g t cs) (h0 : cs[0]? = some (.slice none 0 0)) (ht : 59 ≠ t) (s : ByteArray) (hs : s.size ≤ 1048576) :
    Calls Tryd.prog 37 #[.pointer (some ⟨g, 0, none⟩), .string s] w fun e w' => e = .returned (.tuple #[]) ∧ ∃ v n, Cnt s n ∧ Blk w' g t (cs.setIfInBounds 0 v) ∧ w'.ownsRow (w.heap.size + 1) 59 2 v (n + 1) (symCells (full (pre s n) s.size)) ∧ w.grownBy w' (some g) := by
  have hg := hB.lt
  have hcs0 : cs.setIfInBounds 0 (.slice none 0 0) = cs := by
    obtain ⟨l⟩ := cs
    cases l with
    | nil => simp at h0
    | cons a l => simp at h0; subst h0; simp [Array.setIfInBounds]
  have hstart : DecRel w (w.iter s 0) g t cs s 0 (.slice none 0 0) := ⟨fun k hk => by omega, World.iter_heap w s 0, by rw [hcs0]; exact hB.alloc _, World.ownsRow_nil _ _ _ _, World.grownBy_alloc w _ _⟩
  go_enter Tryd.func37, Tryd.ntmps37
  go_wp2_with fail
  go_loopg [4] (s.size + 1) (fun k o wr => ∃ m v, k = s.size + 1 - m ∧ DecRel w wr g t cs s m v)
  case atStart => exact ⟨0, _, rfl, hstart⟩
  case round =>
    obtain ⟨m, v, hgk, hrel⟩ := hrel
    have HG := Lib.hid hgk
    clear hgk hstart hcs0
    have hml : m ≤ s.size := Nat.le_trans (posN_ge s hrel.lt) (posN_le_size s hrel.lt)
    by_cases hp : posN s m < s.size
    · obtain ⟨W1, hnx, hW1⟩ := run_next_ok (P := Tryd.prog) hrel.it hp
      have hne : g ≠ w.heap.size := by omega
      have hl1 : w.heap.size < wr.heap.size := (Array.getElem?_eq_some_iff.1 hrel.it).1
      have hB1 : Blk W1 g t (cs.setIfInBounds 0 v) := by rw [hW1]; exact (Lib.iterAt_other _ _ _ _ _ hne).trans hrel.blk
      have c1 : W1.cell? ⟨g, 0, none⟩ = some v := by
        rw [hB1.cell]
        have : 0 < cs.size := (Array.getElem?_eq_some_iff.1 h0).1
        simp [this]
      have hO1 : W1.ownsRow (w.heap.size + 1) 59 2 v m (symCells (pre s m)) := by
        rw [hW1]
        exact ownsRow_far hrel.own fun k hk => Lib.iterAt_other _ _ _ _ _ (by have := (hrel.own.lt k hk).1; omega)
      have hsz : wr.heap.size = W1.heap.size := by rw [hW1, Lib.iterAt_size]
      have hdr := decode_rune s (posN s m)
      have hps : posN s m ≤ 1048576 := by omega
      have hW1' : W1 = wr.iterAt w.heap.size s (posN s (m + 1)) := hW1
      have HW := Lib.hid hW1'
      have HS := Lib.hid hsz
      have HP := Lib.hid hp
      have HR := Lib.hid hrel
      have hlw : w.heap.size < W1.heap.size := by omega
      clear hW1 hW1' hsz hrel hl1
      generalize hr : (Utf8.decode s (posN s m)).1 = r at hnx hdr
      have HRr := Lib.hid hr
      clear hr
      have e1 : (symCells (pre s m)).length = m * 2 := by rw [symCells_length, pre_length]
      have hst : ∀ W2 v', W2.ownsRow (w.heap.size + 1) 59 2 v' (m + 1) (symCells (pre s m) ++ [.int .i32 (r : Int), .int .i64 (posN s m : Int)]) →
          ∀ o, (W1.alloc o).grownBy W2 v.ownBlock → W2.cell? ⟨g, 0, none⟩ = some v ∧ W2.frozen? ⟨g, 0, none⟩ = false ∧ Hid (DecRel w (W2.setCell ⟨g, 0, none⟩ v') g t cs s (m + 1) v') := by
        intro W2 v' h1 o h2
        rw [← HRr.out] at h1
        rw [HW.out] at h2
        obtain ⟨h3, h4⟩ := DecRel.step HR.out hg ht HP.out h1 o h2
        have hsz0 : 0 < cs.size := (Array.getElem?_eq_some_iff.1 h0).1
        exact ⟨by rw [h3.cell]; simp [hsz0], h3.frozen 0, Lib.hid h4⟩
      have HST := Lib.hid hst
      clear hst
      go_wp2_with (at_builtin; refine wpList_app _ rfl _ _ 30 rfl (w.heap.size + 1) 59 elS v _ _ rfl (hO1.alloc _) 0 (W1.heap.size + 1) _ 1 1 [.int .i32 (r : Int), .int .i64 (posN s m : Int)] rfl (fun h => by cases h) rfl (Rd.new W1 _ _ _ (Nat.zero_le _) (by omega)) (by simp [Value.oneCell']) (by unfold maxLen; omega) (by omega) (by simp; omega) ?_; intro v' W2 hO2 hg2 hb2 hn2; obtain ⟨A', c', rfl, _, _⟩ := own_form hO2; obtain ⟨q1, q2, q3⟩ := HST.out _ _ hO2 _ hg2; clear hg2 hb2 hn2 hO2)
      go_roundg (s.size + 1 - (m + 1))
      case measure => have := HG.out; omega
      case rel => exact ⟨m + 1, _, rfl, q3.out⟩
    · have hend : posN s m = s.size := by have := posN_le_size s hrel.lt; omega
      have hcnt : Cnt s m := ⟨hend, hrel.lt⟩
      have hnx : ∀ ty, (Instr.next (.pointer (some ⟨w.heap.size, 0, none⟩)) true ty).run Tryd.prog wr = .ok (.tuple #[.bool false]) wr := fun ty => Lib.run_next_end_at wr _ s _ ty hrel.it (by omega)
      have hB1 := hrel.blk
      have hsz0 : 0 < cs.size := (Array.getElem?_eq_some_iff.1 h0).1
      have c1 : wr.cell? ⟨g, 0, none⟩ = some v := by rw [hB1.cell]; simp [hsz0]
      have hO1 := hrel.own
      have hgr := hrel.grown
      have hlw : w.heap.size < wr.heap.size := (Array.getElem?_eq_some_iff.1 hrel.it).1
      have HC := Lib.hid hcnt
      have hss : s.size ≤ 1048576 := hs
      have HB1 := Lib.hid hB1
      have HGr := Lib.hid hgr
      clear hrel hend hcnt hp hB1 hgr
      have e1 : (symCells (pre s m)).length = m * 2 := by rw [symCells_length, pre_length]
      have hst : ∀ W2 v', W2.ownsRow (w.heap.size + 1) 59 2 v' (m + 1) (symCells (pre s m) ++ [.int .i32 (-1), .int .i64 (s.size : Int)]) →
          ∀ o, (wr.alloc o).grownBy W2 v.ownBlock → W2.cell? ⟨g, 0, none⟩ = some v ∧ W2.frozen? ⟨g, 0, none⟩ = false ∧ Hid (Blk (W2.setCell ⟨g, 0, none⟩ v') g t (cs.setIfInBounds 0 v') ∧
            (W2.setCell ⟨g, 0, none⟩ v').ownsRow (w.heap.size + 1) 59 2 v' (m + 1) (symCells (full (pre s m) s.size)) ∧ w.grownBy (W2.setCell ⟨g, 0, none⟩ v') (some g)) := by
        intro W2 v' h1 o h2
        have hb : ∀ k, v.ownBlock = some k → w.heap.size + 1 ≤ k := fun k hk => (hO1.lt k hk).1
        have h3 : Blk W2 g t (cs.setIfInBounds 0 v) := (HB1.out.alloc o).grown h2 fun e => by have := hb g e; omega
        refine ⟨by rw [h3.cell]; simp [hsz0], h3.frozen 0, Lib.hid ⟨?_, ?_, ?_⟩⟩
        · have := h3.set 0 v'
          rwa [show (cs.setIfInBounds 0 v).setIfInBounds 0 v' = cs.setIfInBounds 0 v' by simp [Array.setIfInBounds_setIfInBounds]] at this
        · rw [show symCells (full (pre s m) s.size) = symCells (pre s m) ++ [.int .i32 (-1), .int .i64 (s.size : Int)] by rw [full, symCells_append]; rfl]
          exact ownsRow_far h1 fun k hk => Below.heap_setCell _ _ _ _ (fun e => own_ne_blk h1 h3 ht (by rw [hk, e]))
        · exact grownBy_setCell' (grownBy_own' (grownBy_alloc' HGr.out o) h2 fun k hk => by have := hb k hk; omega) 0 v'
      have HST := Lib.hid hst
      clear hst
      go_wp2_with (at_builtin; refine wpList_app _ rfl _ _ 30 rfl (w.heap.size + 1) 59 elS v _ _ rfl (hO1.alloc _) 0 (wr.heap.size + 1) _ 1 1 [.int .i32 (-1), .int .i64 (s.size : Int)] rfl (fun h => by cases h) rfl (Rd.new wr _ _ _ (Nat.zero_le _) (by omega)) (by simp [Value.oneCell']) (by unfold maxLen; omega) (by omega) (by simp; omega) ?_; intro v' W2 hO2 hg2 hb2 hn2; obtain ⟨A', c', rfl, _, _⟩ := own_form hO2; obtain ⟨q1, q2, q3⟩ := HST.out _ _ hO2 _ hg2; clear hg2 hb2 hn2 hO2)
      go_end0
      exact ⟨rfl, _, m, HC.out, q3.out⟩
end Go.Proofs.YtkiljhlbeffnfaaDoor
