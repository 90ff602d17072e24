/- ThreadsOn: the law's walk. -/
import Derived.Test.YtbhcgjahlfpjoaaDoorLwAgain
import Derived.Test.YtbhcgjahlfpjoaaDoorLoM
import Derived.Test.YtbhcgjahlfpjoaaDoorHeldU
namespace Go.Proofs.YtbhcgjahlfpjoaaDoor
open Go.RowKit

theorem BestIn.slice {B0 : Nat} {W : World} {Z : Nat → Prop} {v : Value} {R : Option (List Int)} (h : BestIn B0 W Z v R) : ∃ (a : Option Addr) (k e : Nat) (l : List Int), v = .slice a k e ∧ IlIn W a k e l ∧ l = R.getD [] ∧ (R = none → a = none ∧ k = 0) := by
  cases R with
  | none =>
    obtain rfl := show v = .slice none 0 0 from h
    exact ⟨none, 0, 0, [], rfl, IlIn.empty _, rfl, fun _ => ⟨rfl, rfl⟩⟩
  | some f =>
    obtain ⟨⟨b, o, cc, rfl, h⟩, _⟩ := h
    exact ⟨_, f.length, cc, f, rfl, FitIn.il (Z := Z) ⟨b, o, cc, rfl, h⟩, rfl, fun h => by cases h⟩
theorem FitIn.blt {W : World} {Z : Nat → Prop} {b o n c : Nat} {f : List Int} (h : FitIn W Z (.slice (some ⟨b, o, none⟩) n c) f) : b < W.heap.size := by
  obtain ⟨b', o', cc, e, _, _, hb, _⟩ := h
  injection e with e
  injection e with e
  injection e with e
  subst e
  exact hb
set_option maxRecDepth 100000 in
set_option maxHeartbeats 16000000 in
theorem threadsOn_walk {w : World} {A T : Option Addr} {n c tn tc : Nat} {L : List MI} {s : ByteArray} {st cp frm mo : Int} (anch lng : Bool)
    (hx : AskIn w A n c L T tn tc s frm) (hmo : 0 ≤ mo ∧ mo ≤ 255) :
    Calls Tryd.prog 4 #[.agg #[.slice A n c, .int .i64 st, .int .i64 cp, .slice T tn tc, .int .i64 frm, .bool anch, .bool lng], .int .u8 mo] w fun e w' => e = .returned (.bool true) ∧ Below w.heap.size w w' := by
  have q1 := Blk.new w 31 #[.slice A n c, .int .i64 st, .int .i64 cp, .slice T tn tc, .int .i64 frm, .bool anch, .bool lng]
  have b1 : Below w.heap.size w (w.alloc (.cells #[.slice A n c, .int .i64 st, .int .i64 cp, .slice T tn tc, .int .i64 frm, .bool anch, .bool lng] 31)) := (Below.refl _ _).alloc (Nat.le_refl _) _
  have HX := Lib.hid hx
  have HMO := Lib.hid hmo
  clear hx hmo
  go_enter Tryd.func4, Tryd.ntmps4
  go_upto_region 1 with fail
  generalize w.alloc (.cells #[.slice A n c, .int .i64 st, .int .i64 cp, .slice T tn tc, .int .i64 frm, .bool anch, .bool lng] 31) = w2 at q1 b1 ⊢
  have hh := head17_any w2
  have Q1 := Lib.hid q1
  have B2 := Lib.hid b1
  clear q1 b1
  go_wp2_with fail
  with_reducible refine hh.mono ?_
  rintro e w3 ⟨rfl, hb3⟩
  have Q1c := Lib.hid (Q1.out.below hb3 Q1.out.lt)
  have B3 := Lib.hid (B2.out.trans (hb3.mono B2.out.size))
  clear hh hb3 Q1 B2
  have x3 := Q1c.out.cell 3
  simp only [List.getElem?_toArray, List.getElem?_cons_zero, List.getElem?_cons_succ] at x3
  have ht := text11_any (c := tc) (HX.out.rd.same (Same.of_below B3.out (Nat.le_refl _))) B3.out.size HX.out.sz HX.out.tnil HX.out.tle
  go_wp2_with fail
  with_reducible refine ht.mono ?_
  intro e w5 ht5
  obtain ⟨pa, rfl, hb5, hpa⟩ := ht5.ptr
  have Q1e := Lib.hid (Q1c.out.below hb5 Q1c.out.lt)
  have B5 := Lib.hid (B3.out.trans (hb5.mono B3.out.size))
  have B35 := Lib.hid hb5
  have HPA := Lib.hid hpa
  have hn := new17_any w5
  have HLT := Lib.hid Q1e.out.lt
  clear ht hb5 x3 ht5 hpa Q1c
  go_wp2_with fail
  with_reducible refine hn.mono ?_
  rintro e w6 ⟨rfl, hma, hb6, _, hz6⟩
  have Q1f := Lib.hid (Q1e.out.below hb6 Q1e.out.lt)
  have B6 := Lib.hid (B5.out.trans (hb6.mono B5.out.size))
  have B56 := Lib.hid hb6
  have HMA := Lib.hid hma
  have HZ6 := Lib.hid hz6
  clear hn hma hb6 hz6 Q1e
  go_upto_region 4 with fail
  go_cut [52] from 172 to 171 (fun s52 wx => ∃ t, s52 = .bool t ∧ Hid (Below w6.heap.size w6 wx ∧ (t = false → ∃ ga ma, pa = some ⟨ga, 0, none⟩ ∧ Cnt s ma ∧ s.size ≤ 65536 ∧ SymsAt w6 w3.heap.size w5.heap.size ga (full (preR s ma) s.size) s.data.toList ∧ (∀ x ∈ L, x.n ≤ 1000000) ∧ 0 ≤ frm ∧ frm ≤ ((full (preR s ma) s.size).length : Int) - 1)))
  case first => as_aux_lemma =>
    rcases HPA.out with rfl | ⟨ga, ma, rfl, hca, hsa, hia⟩
    · have hS : (fun w' => w'.cell? ⟨w.heap.size, 0, none⟩ = some (.slice A n c) ∧ w'.cell? ⟨w.heap.size, 1, none⟩ = some (.int .i64 st) ∧ w'.cell? ⟨w.heap.size, 2, none⟩ = some (.int .i64 cp) ∧ w'.cell? ⟨w.heap.size, 3, none⟩ = some (.slice T tn tc) ∧ w'.cell? ⟨w.heap.size, 4, none⟩ = some (.int .i64 frm)) w6.drew := And.intro (Q1f.out.cell 0) (And.intro (Q1f.out.cell 1) (And.intro (Q1f.out.cell 2) (And.intro (Q1f.out.cell 3) (Q1f.out.cell 4))))
      refine wp_region_U (S := fun w' => w'.cell? ⟨w.heap.size, 0, none⟩ = some (.slice A n c) ∧ w'.cell? ⟨w.heap.size, 1, none⟩ = some (.int .i64 st) ∧ w'.cell? ⟨w.heap.size, 2, none⟩ = some (.int .i64 cp) ∧ w'.cell? ⟨w.heap.size, 3, none⟩ = some (.slice T tn tc) ∧ w'.cell? ⟨w.heap.size, 4, none⟩ = some (.int .i64 frm)) (t := 99) (by kernel_rfl) ?_
      refine wpAnyU_pure (i := 0) (v := ?_) rfl (by kernel_rfl) (by kernel_rfl) (by kernel_rfl) (fun _ _ _ h => h) (by kernel_rfl) (Or.inl ⟨by rfl, ?_⟩) (Or.inr hS) ?_
      rotate_left
      · (intro w _; go_simp; try with_reducible rfl)
      try simp only [List.getElem_toArray, List.getElem_cons_zero, Act.put, List.setIfInBounds_toArray, List.set_cons_zero, List.set_cons_succ]
      refine wpAnyU_pure (i := 1) (v := ?_) rfl (by kernel_rfl) (by kernel_rfl) (by kernel_rfl) (fun _ _ _ h => h) (by kernel_rfl) (Or.inl ⟨by rfl, ?_⟩) (Or.inr hS) ?_
      rotate_left
      · (intro w _; go_simp; try with_reducible rfl)
      try simp only [List.getElem_toArray, List.getElem_cons_succ, List.getElem_cons_zero, Act.put, List.setIfInBounds_toArray, List.set_cons_zero, List.set_cons_succ]
      refine wpAnyU_pure (i := 2) (v := ?_) rfl (by kernel_rfl) (by kernel_rfl) (by kernel_rfl) (fun _ _ _ h => h) (by kernel_rfl) (Or.inl ⟨by rfl, ?_⟩) (Or.inr hS) ?_
      rotate_left
      · (intro w _; go_simp; try with_reducible rfl)
      try simp only [List.getElem_toArray, List.getElem_cons_succ, List.getElem_cons_zero, Act.put, List.setIfInBounds_toArray, List.set_cons_zero, List.set_cons_succ]
      refine wpAnyU_pure (i := 3) (v := undef) rfl (by kernel_rfl) (by kernel_rfl) (by kernel_rfl) (fun _ _ _ h => h) (by kernel_rfl) (Or.inr ⟨by rfl, rfl⟩) (Or.inr hS) ?_
      try simp only [List.getElem_toArray, List.getElem_cons_succ, List.getElem_cons_zero, Act.put, List.setIfInBounds_toArray, List.set_cons_zero, List.set_cons_succ]
      refine wpAnyU_pure (i := 4) (v := undef) rfl (by kernel_rfl) (by kernel_rfl) (by kernel_rfl) (fun _ _ _ h => h) (by kernel_rfl) (Or.inr ⟨by rfl, rfl⟩) (Or.inr hS) ?_
      try simp only [List.getElem_toArray, List.getElem_cons_succ, List.getElem_cons_zero, Act.put, List.setIfInBounds_toArray, List.set_cons_zero, List.set_cons_succ]
      refine wpAnyU_pure (i := 5) (v := ?_) rfl (by kernel_rfl) (by kernel_rfl) (by kernel_rfl) (fun _ _ _ h => h) (by kernel_rfl) (Or.inl ⟨by rfl, ?_⟩) (Or.inr hS) ?_
      rotate_left
      · (intro w _; go_simp; try with_reducible rfl)
      try simp only [List.getElem_toArray, List.getElem_cons_succ, List.getElem_cons_zero, Act.put, List.setIfInBounds_toArray, List.set_cons_zero, List.set_cons_succ]
      refine wpAnyU_pure (i := 6) (v := ?_) rfl (by kernel_rfl) (by kernel_rfl) (by kernel_rfl) (fun _ _ _ h => h) (by kernel_rfl) (Or.inl ⟨by rfl, ?_⟩) (Or.inr hS) ?_
      rotate_left
      · (intro w _; go_simp; try with_reducible rfl)
      try simp only [List.getElem_toArray, List.getElem_cons_succ, List.getElem_cons_zero, Act.put, List.setIfInBounds_toArray, List.set_cons_zero, List.set_cons_succ]
      refine wpAnyU_pure (i := 7) (v := undef) rfl (by kernel_rfl) (by kernel_rfl) (by kernel_rfl) (fun _ _ _ h => h) (by kernel_rfl) (Or.inr ⟨by rfl, rfl⟩) (Or.inr hS) ?_
      try simp only [List.getElem_toArray, List.getElem_cons_succ, List.getElem_cons_zero, Act.put, List.setIfInBounds_toArray, List.set_cons_zero, List.set_cons_succ]
      refine wpAnyU_pure (i := 8) (v := undef) rfl (by kernel_rfl) (by kernel_rfl) (by kernel_rfl) (fun _ _ _ h => h) (by kernel_rfl) (Or.inr ⟨by rfl, rfl⟩) (Or.inr hS) ?_
      try simp only [List.getElem_toArray, List.getElem_cons_succ, List.getElem_cons_zero, Act.put, List.setIfInBounds_toArray, List.set_cons_zero, List.set_cons_succ]
      refine wpAnyU_pure (i := 9) (v := undef) rfl (by kernel_rfl) (by kernel_rfl) (by kernel_rfl) (fun _ _ _ h => h) (by kernel_rfl) (Or.inr ⟨by rfl, rfl⟩) (Or.inr hS) ?_
      try simp only [List.getElem_toArray, List.getElem_cons_succ, List.getElem_cons_zero, Act.put, List.setIfInBounds_toArray, List.set_cons_zero, List.set_cons_succ]
      refine wpAnyU_pure (i := 10) (v := undef) rfl (by kernel_rfl) (by kernel_rfl) (by kernel_rfl) (fun _ _ _ h => h) (by kernel_rfl) (Or.inr ⟨by rfl, rfl⟩) (Or.inr hS) ?_
      try simp only [List.getElem_toArray, List.getElem_cons_succ, List.getElem_cons_zero, Act.put, List.setIfInBounds_toArray, List.set_cons_zero, List.set_cons_succ]
      refine wpAnyU_pure (i := 11) (v := undef) rfl (by kernel_rfl) (by kernel_rfl) (by kernel_rfl) (fun _ _ _ h => h) (by kernel_rfl) (Or.inr ⟨by rfl, rfl⟩) (Or.inr hS) ?_
      try simp only [List.getElem_toArray, List.getElem_cons_succ, List.getElem_cons_zero, Act.put, List.setIfInBounds_toArray, List.set_cons_zero, List.set_cons_succ]
      refine wpAnyU_pure (i := 12) (v := ?_) rfl (by kernel_rfl) (by kernel_rfl) (by kernel_rfl) (fun _ _ _ h => h) (by kernel_rfl) (Or.inl ⟨by rfl, ?_⟩) (Or.inr hS) ?_
      rotate_left
      · (intro w _; go_simp; try with_reducible rfl)
      try simp only [List.getElem_toArray, List.getElem_cons_succ, List.getElem_cons_zero, Act.put, List.setIfInBounds_toArray, List.set_cons_zero, List.set_cons_succ]
      refine wpAnyU_pure (i := 13) (v := ?_) rfl (by kernel_rfl) (by kernel_rfl) (by kernel_rfl) (fun _ _ _ h => h) (by kernel_rfl) (Or.inl ⟨by rfl, ?_⟩) (Or.inr hS) ?_
      rotate_left
      · (intro w _; go_simp; try with_reducible rfl)
      try simp only [List.getElem_toArray, List.getElem_cons_succ, List.getElem_cons_zero, Act.put, List.setIfInBounds_toArray, List.set_cons_zero, List.set_cons_succ]
      refine wpAnyU_pure (i := 14) (v := undef) rfl (by kernel_rfl) (by kernel_rfl) (by kernel_rfl) (fun _ _ _ h => h) (by kernel_rfl) (Or.inr ⟨by rfl, rfl⟩) (Or.inr hS) ?_
      try simp only [List.getElem_toArray, List.getElem_cons_succ, List.getElem_cons_zero, Act.put, List.setIfInBounds_toArray, List.set_cons_zero, List.set_cons_succ]
      refine wpAnyU_pure (i := 15) (v := undef) rfl (by kernel_rfl) (by kernel_rfl) (by kernel_rfl) (fun _ _ _ h => h) (by kernel_rfl) (Or.inr ⟨by rfl, rfl⟩) (Or.inr hS) ?_
      try simp only [List.getElem_toArray, List.getElem_cons_succ, List.getElem_cons_zero, Act.put, List.setIfInBounds_toArray, List.set_cons_zero, List.set_cons_succ]
      refine wpAnyU_pure (i := 16) (v := undef) rfl (by kernel_rfl) (by kernel_rfl) (by kernel_rfl) (fun _ _ _ h => h) (by kernel_rfl) (Or.inr ⟨by rfl, rfl⟩) (Or.inr hS) ?_
      try simp only [List.getElem_toArray, List.getElem_cons_succ, List.getElem_cons_zero, Act.put, List.setIfInBounds_toArray, List.set_cons_zero, List.set_cons_succ]
      refine wpAnyU_pure (i := 17) (v := ?_) rfl (by kernel_rfl) (by kernel_rfl) (by kernel_rfl) (fun _ _ _ h => h) (by kernel_rfl) (Or.inl ⟨by rfl, ?_⟩) (Or.inr hS) ?_
      rotate_left
      · (intro w _; go_simp; try with_reducible rfl)
      try simp only [List.getElem_toArray, List.getElem_cons_succ, List.getElem_cons_zero, Act.put, List.setIfInBounds_toArray, List.set_cons_zero, List.set_cons_succ]
      refine wpAnyU_pure (i := 18) (v := ?_) rfl (by kernel_rfl) (by kernel_rfl) (by kernel_rfl) (fun _ _ _ h => h) (by kernel_rfl) (Or.inl ⟨by rfl, ?_⟩) (Or.inr hS) ?_
      rotate_left
      · (intro w _; go_simp; try with_reducible rfl)
      try simp only [List.getElem_toArray, List.getElem_cons_succ, List.getElem_cons_zero, Act.put, List.setIfInBounds_toArray, List.set_cons_zero, List.set_cons_succ]
      refine wpAnyU_pure (i := 19) (v := undef) rfl (by kernel_rfl) (by kernel_rfl) (by kernel_rfl) (fun _ _ _ h => h) (by kernel_rfl) (Or.inr ⟨by rfl, rfl⟩) (Or.inr hS) ?_
      try simp only [List.getElem_toArray, List.getElem_cons_succ, List.getElem_cons_zero, Act.put, List.setIfInBounds_toArray, List.set_cons_zero, List.set_cons_succ]
      refine wpAnyU_pure (i := 20) (v := undef) rfl (by kernel_rfl) (by kernel_rfl) (by kernel_rfl) (fun _ _ _ h => h) (by kernel_rfl) (Or.inr ⟨by rfl, rfl⟩) (Or.inr hS) ?_
      try simp only [List.getElem_toArray, List.getElem_cons_succ, List.getElem_cons_zero, Act.put, List.setIfInBounds_toArray, List.set_cons_zero, List.set_cons_succ]
      refine wpAnyU_pure (i := 21) (v := undef) rfl (by kernel_rfl) (by kernel_rfl) (by kernel_rfl) (fun _ _ _ h => h) (by kernel_rfl) (Or.inr ⟨by rfl, rfl⟩) (Or.inr hS) ?_
      try simp only [List.getElem_toArray, List.getElem_cons_succ, List.getElem_cons_zero, Act.put, List.setIfInBounds_toArray, List.set_cons_zero, List.set_cons_succ]
      refine wpAnyU_pure (i := 22) (v := undef) rfl (by kernel_rfl) (by kernel_rfl) (by kernel_rfl) (fun _ _ _ h => h) (by kernel_rfl) (Or.inr ⟨by rfl, rfl⟩) (Or.inr hS) ?_
      try simp only [List.getElem_toArray, List.getElem_cons_succ, List.getElem_cons_zero, Act.put, List.setIfInBounds_toArray, List.set_cons_zero, List.set_cons_succ]
      refine wpAnyU_pure (i := 23) (v := undef) rfl (by kernel_rfl) (by kernel_rfl) (by kernel_rfl) (fun _ _ _ h => h) (by kernel_rfl) (Or.inr ⟨by rfl, rfl⟩) (Or.inr hS) ?_
      try simp only [List.getElem_toArray, List.getElem_cons_succ, List.getElem_cons_zero, Act.put, List.setIfInBounds_toArray, List.set_cons_zero, List.set_cons_succ]
      refine wpAnyU_pure (i := 24) (v := undef) rfl (by kernel_rfl) (by kernel_rfl) (by kernel_rfl) (fun _ _ _ h => h) (by kernel_rfl) (Or.inr ⟨by rfl, rfl⟩) (Or.inr hS) ?_
      try simp only [List.getElem_toArray, List.getElem_cons_succ, List.getElem_cons_zero, Act.put, List.setIfInBounds_toArray, List.set_cons_zero, List.set_cons_succ]
      refine wpAnyU_pure (i := 25) (v := undef) rfl (by kernel_rfl) (by kernel_rfl) (by kernel_rfl) (fun _ _ _ h => h) (by kernel_rfl) (Or.inr ⟨by rfl, rfl⟩) (Or.inr hS) ?_
      try simp only [List.getElem_toArray, List.getElem_cons_succ, List.getElem_cons_zero, Act.put, List.setIfInBounds_toArray, List.set_cons_zero, List.set_cons_succ]
      refine wpAnyU_pure (i := 26) (v := ?_) rfl (by kernel_rfl) (by kernel_rfl) (by kernel_rfl) (fun _ _ _ h => h) (by kernel_rfl) (Or.inl ⟨by rfl, ?_⟩) (Or.inr hS) ?_
      rotate_left
      · (intro w _; go_simp; try with_reducible rfl)
      try simp only [List.getElem_toArray, List.getElem_cons_succ, List.getElem_cons_zero, Act.put, List.setIfInBounds_toArray, List.set_cons_zero, List.set_cons_succ]
      refine wpAnyU_done (by kernel_rfl) ?_ _
      go_wp2_with fail
      go_meet
      case rel => exact ⟨_, rfl, Lib.hid ⟨(Below.refl _ _).drew, fun h => by cases h⟩⟩
    have HIA := Lib.hid (hia.same (Same.of_below B56.out (Nat.le_refl _)))
    have HCA := Lib.hid (And.intro hca hsa)
    have HG := Lib.hid (And.intro B5.out.size (And.intro B35.out.size HZ6.out))
    have hlx := long15_any (st := st) (cp := cp) (HX.out.pg.below B6.out.drew) HX.out.fit HX.out.nn T (tn := tn) (tc := tc) (by have := HX.out.sz; omega)
    have hS : (fun w' => w'.cell? ⟨w.heap.size, 0, none⟩ = some (.slice A n c) ∧ w'.cell? ⟨w.heap.size, 1, none⟩ = some (.int .i64 st) ∧ w'.cell? ⟨w.heap.size, 2, none⟩ = some (.int .i64 cp) ∧ w'.cell? ⟨w.heap.size, 3, none⟩ = some (.slice T tn tc) ∧ w'.cell? ⟨w.heap.size, 4, none⟩ = some (.int .i64 frm)) w6.drew := And.intro (Q1f.out.cell 0) (And.intro (Q1f.out.cell 1) (And.intro (Q1f.out.cell 2) (And.intro (Q1f.out.cell 3) (Q1f.out.cell 4))))
    clear hca hsa hia B35 HPA
    refine wp_region_U (S := fun w' => w'.cell? ⟨w.heap.size, 0, none⟩ = some (.slice A n c) ∧ w'.cell? ⟨w.heap.size, 1, none⟩ = some (.int .i64 st) ∧ w'.cell? ⟨w.heap.size, 2, none⟩ = some (.int .i64 cp) ∧ w'.cell? ⟨w.heap.size, 3, none⟩ = some (.slice T tn tc) ∧ w'.cell? ⟨w.heap.size, 4, none⟩ = some (.int .i64 frm)) (t := 99) (by kernel_rfl) ?_
    refine wpAnyU_pure (i := 0) (v := ?_) rfl (by kernel_rfl) (by kernel_rfl) (by kernel_rfl) (fun _ _ _ h => h) (by kernel_rfl) (Or.inl ⟨by rfl, ?_⟩) (Or.inr hS) ?_
    rotate_left
    · (intro w _; go_simp; try with_reducible rfl)
    try simp only [List.getElem_toArray, List.getElem_cons_zero, Act.put, List.setIfInBounds_toArray, List.set_cons_zero, List.set_cons_succ]
    refine wpAnyU_pure (i := 1) (v := ?_) rfl (by kernel_rfl) (by kernel_rfl) (by kernel_rfl) (fun _ _ _ h => h) (by kernel_rfl) (Or.inl ⟨by rfl, ?_⟩) (Or.inr hS) ?_
    rotate_left
    · (intro w _; go_simp; try with_reducible rfl)
    try simp only [List.getElem_toArray, List.getElem_cons_succ, List.getElem_cons_zero, Act.put, List.setIfInBounds_toArray, List.set_cons_zero, List.set_cons_succ]
    refine wpAnyU_pure (i := 2) (v := ?_) rfl (by kernel_rfl) (by kernel_rfl) (by kernel_rfl) (fun _ _ _ h => h) (by kernel_rfl) (Or.inl ⟨by rfl, ?_⟩) (Or.inr hS) ?_
    rotate_left
    · (intro w _; go_simp; try with_reducible rfl)
    try simp only [List.getElem_toArray, List.getElem_cons_succ, List.getElem_cons_zero, Act.put, List.setIfInBounds_toArray, List.set_cons_zero, List.set_cons_succ]
    refine wpAnyU_pure (i := 3) (v := ?_) rfl (by kernel_rfl) (by kernel_rfl) (by kernel_rfl) (fun _ _ _ h => h) (by kernel_rfl) (Or.inl ⟨by rfl, ?_⟩) (Or.inr hS) ?_
    rotate_left
    · (intro w _; go_simp; try with_reducible rfl)
    try simp only [List.getElem_toArray, List.getElem_cons_succ, List.getElem_cons_zero, Act.put, List.setIfInBounds_toArray, List.set_cons_zero, List.set_cons_succ]
    refine wpAnyU_pure (i := 4) (v := ?_) rfl (by kernel_rfl) (by kernel_rfl) (by kernel_rfl) (fun _ _ _ h => h) (by kernel_rfl) (Or.inl ⟨by rfl, ?_⟩) (Or.inr hS) ?_
    rotate_left
    · (intro w _; go_simp; try with_reducible rfl)
    try simp only [List.getElem_toArray, List.getElem_cons_succ, List.getElem_cons_zero, Act.put, List.setIfInBounds_toArray, List.set_cons_zero, List.set_cons_succ]
    refine wpAnyU_pure (i := 5) (v := ?_) rfl (by kernel_rfl) (by kernel_rfl) (by kernel_rfl) (fun _ _ _ h => h) (by kernel_rfl) (Or.inl ⟨by rfl, ?_⟩) (Or.inr hS) ?_
    rotate_left
    · (intro w _; go_simp; try with_reducible rfl)
    try simp only [List.getElem_toArray, List.getElem_cons_succ, List.getElem_cons_zero, Act.put, List.setIfInBounds_toArray, List.set_cons_zero, List.set_cons_succ]
    refine wpAnyU_pure (i := 6) (v := ?_) rfl (by kernel_rfl) (by kernel_rfl) (by kernel_rfl) (fun _ _ _ h => h) (by kernel_rfl) (Or.inl ⟨by rfl, ?_⟩) (Or.inr hS) ?_
    rotate_left
    · (intro w _; go_simp; try with_reducible rfl)
    try simp only [List.getElem_toArray, List.getElem_cons_succ, List.getElem_cons_zero, Act.put, List.setIfInBounds_toArray, List.set_cons_zero, List.set_cons_succ]
    refine wpAnyU_pure (i := 7) (v := ?_) rfl (by kernel_rfl) (by kernel_rfl) (by kernel_rfl) (fun _ _ _ h => h) (by kernel_rfl) (Or.inl ⟨by rfl, ?_⟩) (Or.inr hS) ?_
    rotate_left
    · (intro w _; go_simp; try with_reducible rfl)
    try simp only [List.getElem_toArray, List.getElem_cons_succ, List.getElem_cons_zero, Act.put, List.setIfInBounds_toArray, List.set_cons_zero, List.set_cons_succ]
    refine wpAnyU_take (i := 8) (v := ?_) rfl (by kernel_rfl) (by kernel_rfl) (by kernel_rfl) (fun _ _ _ h => h) (by kernel_rfl) (Or.inl ⟨by rfl, ?_⟩) hS ?_
    rotate_left
    · (intro w hS; obtain ⟨s1, s2, s3, s4, s5⟩ := hS; go_simp; try with_reducible rfl)
    try simp only [List.getElem_toArray, List.getElem_cons_succ, List.getElem_cons_zero, Act.put, List.setIfInBounds_toArray, List.set_cons_zero, List.set_cons_succ]
    refine wpAnyU_pure (i := 9) (v := ?_) rfl (by kernel_rfl) (by kernel_rfl) (by kernel_rfl) (fun _ _ _ h => h) (by kernel_rfl) (Or.inl ⟨by rfl, ?_⟩) (Or.inr hS) ?_
    rotate_left
    · (intro w _; go_simp; try with_reducible rfl)
    try simp only [List.getElem_toArray, List.getElem_cons_succ, List.getElem_cons_zero, Act.put, List.setIfInBounds_toArray, List.set_cons_zero, List.set_cons_succ]
    refine wpAnyU_take (i := 10) (v := ?_) rfl (by kernel_rfl) (by kernel_rfl) (by kernel_rfl) (fun _ _ _ h => h) (by kernel_rfl) (Or.inl ⟨by rfl, ?_⟩) hS ?_
    rotate_left
    · (intro w hS; obtain ⟨s1, s2, s3, s4, s5⟩ := hS; go_simp; try with_reducible rfl)
    try simp only [List.getElem_toArray, List.getElem_cons_succ, List.getElem_cons_zero, Act.put, List.setIfInBounds_toArray, List.set_cons_zero, List.set_cons_succ]
    refine wpAnyU_one (i := 11) (by kernel_rfl) rfl (fun K hK => ?_)
    rw [if_pos (by rfl)]
    simp only [List.getElem_toArray, List.getElem_cons_succ, List.getElem_cons_zero]
    go_simp
    with_reducible refine hlx.mono ?_
    rintro e w7 ⟨bl, rfl, hbl, hb7⟩
    have HBL := Lib.hid hbl
    have HB67 : Hid (Below w6.heap.size w6 w7) := Lib.hid (Below.undrew hb7)
    have Q1g := Lib.hid (Q1f.out.below HB67.out Q1f.out.lt)
    clear hlx hbl hb7
    go_simp
    replace hS := And.intro (Q1g.out.cell 0) (And.intro (Q1g.out.cell 1) (And.intro (Q1g.out.cell 2) (And.intro (Q1g.out.cell 3) (Q1g.out.cell 4))))
    refine hK _ _ (Or.inr hS) ?_
    clear hK K
    try simp only [Array.getInternal_eq_getElem, List.getElem_toArray, List.getElem_cons_succ, List.getElem_cons_zero, Act.put, List.setIfInBounds_toArray, List.set_cons_zero, List.set_cons_succ]
    rcases (show bl = true ∨ (bl = false ∧ frm < 0) ∨ (bl = false ∧ ¬ frm < 0) by cases bl <;> simp <;> omega) with rfl | ⟨rfl, hfz⟩ | ⟨rfl, hfz⟩
    · skip
      skip
      refine wpAnyU_pure (i := 12) (v := ?_) rfl (by kernel_rfl) (by kernel_rfl) (by kernel_rfl) (fun _ _ _ h => h) (by kernel_rfl) (Or.inl ⟨by rfl, ?_⟩) (Or.inr hS) ?_
      rotate_left
      · (intro w _; go_simp; try with_reducible rfl)
      try simp only [List.getElem_toArray, List.getElem_cons_succ, List.getElem_cons_zero, Act.put, List.setIfInBounds_toArray, List.set_cons_zero, List.set_cons_succ]
      refine wpAnyU_pure (i := 13) (v := ?_) rfl (by kernel_rfl) (by kernel_rfl) (by kernel_rfl) (fun _ _ _ h => h) (by kernel_rfl) (Or.inl ⟨by rfl, ?_⟩) (Or.inr hS) ?_
      rotate_left
      · (intro w _; go_simp; try with_reducible rfl)
      try simp only [List.getElem_toArray, List.getElem_cons_succ, List.getElem_cons_zero, Act.put, List.setIfInBounds_toArray, List.set_cons_zero, List.set_cons_succ]
      refine wpAnyU_pure (i := 14) (v := undef) rfl (by kernel_rfl) (by kernel_rfl) (by kernel_rfl) (fun _ _ _ h => h) (by kernel_rfl) (Or.inr ⟨by rfl, rfl⟩) (Or.inr hS) ?_
      try simp only [List.getElem_toArray, List.getElem_cons_succ, List.getElem_cons_zero, Act.put, List.setIfInBounds_toArray, List.set_cons_zero, List.set_cons_succ]
      refine wpAnyU_pure (i := 15) (v := undef) rfl (by kernel_rfl) (by kernel_rfl) (by kernel_rfl) (fun _ _ _ h => h) (by kernel_rfl) (Or.inr ⟨by rfl, rfl⟩) (Or.inr hS) ?_
      try simp only [List.getElem_toArray, List.getElem_cons_succ, List.getElem_cons_zero, Act.put, List.setIfInBounds_toArray, List.set_cons_zero, List.set_cons_succ]
      refine wpAnyU_pure (i := 16) (v := undef) rfl (by kernel_rfl) (by kernel_rfl) (by kernel_rfl) (fun _ _ _ h => h) (by kernel_rfl) (Or.inr ⟨by rfl, rfl⟩) (Or.inr hS) ?_
      try simp only [List.getElem_toArray, List.getElem_cons_succ, List.getElem_cons_zero, Act.put, List.setIfInBounds_toArray, List.set_cons_zero, List.set_cons_succ]
      refine wpAnyU_pure (i := 17) (v := ?_) rfl (by kernel_rfl) (by kernel_rfl) (by kernel_rfl) (fun _ _ _ h => h) (by kernel_rfl) (Or.inl ⟨by rfl, ?_⟩) (Or.inr hS) ?_
      rotate_left
      · (intro w _; go_simp; try with_reducible rfl)
      try simp only [List.getElem_toArray, List.getElem_cons_succ, List.getElem_cons_zero, Act.put, List.setIfInBounds_toArray, List.set_cons_zero, List.set_cons_succ]
      refine wpAnyU_pure (i := 18) (v := ?_) rfl (by kernel_rfl) (by kernel_rfl) (by kernel_rfl) (fun _ _ _ h => h) (by kernel_rfl) (Or.inl ⟨by rfl, ?_⟩) (Or.inr hS) ?_
      rotate_left
      · (intro w _; go_simp; try with_reducible rfl)
      try simp only [List.getElem_toArray, List.getElem_cons_succ, List.getElem_cons_zero, Act.put, List.setIfInBounds_toArray, List.set_cons_zero, List.set_cons_succ]
      refine wpAnyU_pure (i := 19) (v := undef) rfl (by kernel_rfl) (by kernel_rfl) (by kernel_rfl) (fun _ _ _ h => h) (by kernel_rfl) (Or.inr ⟨by rfl, rfl⟩) (Or.inr hS) ?_
      try simp only [List.getElem_toArray, List.getElem_cons_succ, List.getElem_cons_zero, Act.put, List.setIfInBounds_toArray, List.set_cons_zero, List.set_cons_succ]
      refine wpAnyU_pure (i := 20) (v := undef) rfl (by kernel_rfl) (by kernel_rfl) (by kernel_rfl) (fun _ _ _ h => h) (by kernel_rfl) (Or.inr ⟨by rfl, rfl⟩) (Or.inr hS) ?_
      try simp only [List.getElem_toArray, List.getElem_cons_succ, List.getElem_cons_zero, Act.put, List.setIfInBounds_toArray, List.set_cons_zero, List.set_cons_succ]
      refine wpAnyU_pure (i := 21) (v := undef) rfl (by kernel_rfl) (by kernel_rfl) (by kernel_rfl) (fun _ _ _ h => h) (by kernel_rfl) (Or.inr ⟨by rfl, rfl⟩) (Or.inr hS) ?_
      try simp only [List.getElem_toArray, List.getElem_cons_succ, List.getElem_cons_zero, Act.put, List.setIfInBounds_toArray, List.set_cons_zero, List.set_cons_succ]
      refine wpAnyU_pure (i := 22) (v := undef) rfl (by kernel_rfl) (by kernel_rfl) (by kernel_rfl) (fun _ _ _ h => h) (by kernel_rfl) (Or.inr ⟨by rfl, rfl⟩) (Or.inr hS) ?_
      try simp only [List.getElem_toArray, List.getElem_cons_succ, List.getElem_cons_zero, Act.put, List.setIfInBounds_toArray, List.set_cons_zero, List.set_cons_succ]
      refine wpAnyU_pure (i := 23) (v := undef) rfl (by kernel_rfl) (by kernel_rfl) (by kernel_rfl) (fun _ _ _ h => h) (by kernel_rfl) (Or.inr ⟨by rfl, rfl⟩) (Or.inr hS) ?_
      try simp only [List.getElem_toArray, List.getElem_cons_succ, List.getElem_cons_zero, Act.put, List.setIfInBounds_toArray, List.set_cons_zero, List.set_cons_succ]
      refine wpAnyU_pure (i := 24) (v := undef) rfl (by kernel_rfl) (by kernel_rfl) (by kernel_rfl) (fun _ _ _ h => h) (by kernel_rfl) (Or.inr ⟨by rfl, rfl⟩) (Or.inr hS) ?_
      try simp only [List.getElem_toArray, List.getElem_cons_succ, List.getElem_cons_zero, Act.put, List.setIfInBounds_toArray, List.set_cons_zero, List.set_cons_succ]
      refine wpAnyU_pure (i := 25) (v := undef) rfl (by kernel_rfl) (by kernel_rfl) (by kernel_rfl) (fun _ _ _ h => h) (by kernel_rfl) (Or.inr ⟨by rfl, rfl⟩) (Or.inr hS) ?_
      try simp only [List.getElem_toArray, List.getElem_cons_succ, List.getElem_cons_zero, Act.put, List.setIfInBounds_toArray, List.set_cons_zero, List.set_cons_succ]
      refine wpAnyU_pure (i := 26) (v := ?_) rfl (by kernel_rfl) (by kernel_rfl) (by kernel_rfl) (fun _ _ _ h => h) (by kernel_rfl) (Or.inl ⟨by rfl, ?_⟩) (Or.inr hS) ?_
      rotate_left
      · (intro w _; go_simp; try with_reducible rfl)
      try simp only [List.getElem_toArray, List.getElem_cons_succ, List.getElem_cons_zero, Act.put, List.setIfInBounds_toArray, List.set_cons_zero, List.set_cons_succ]
      refine wpAnyU_done (by kernel_rfl) ?_ _
      go_wp2_with fail
      go_meet
      case rel => exact ⟨_, rfl, Lib.hid ⟨HB67.out, fun h => by cases h⟩⟩
    · skip
      have d9 : decide (frm < 0) = true := decide_eq_true hfz
      refine wpAnyU_pure (i := 12) (v := ?_) rfl (by kernel_rfl) (by kernel_rfl) (by kernel_rfl) (fun _ _ _ h => h) (by kernel_rfl) (Or.inl ⟨by rfl, ?_⟩) (Or.inr hS) ?_
      rotate_left
      · (intro w _; go_simp; try with_reducible rfl)
      try simp only [List.getElem_toArray, List.getElem_cons_succ, List.getElem_cons_zero, Act.put, List.setIfInBounds_toArray, List.set_cons_zero, List.set_cons_succ]
      refine wpAnyU_pure (i := 13) (v := ?_) rfl (by kernel_rfl) (by kernel_rfl) (by kernel_rfl) (fun _ _ _ h => h) (by kernel_rfl) (Or.inl ⟨by rfl, ?_⟩) (Or.inr hS) ?_
      rotate_left
      · (intro w _; go_simp; try with_reducible rfl)
      try simp only [List.getElem_toArray, List.getElem_cons_succ, List.getElem_cons_zero, Act.put, List.setIfInBounds_toArray, List.set_cons_zero, List.set_cons_succ]
      refine wpAnyU_pure (i := 14) (v := ?_) rfl (by kernel_rfl) (by kernel_rfl) (by kernel_rfl) (fun _ _ _ h => h) (by kernel_rfl) (Or.inl ⟨by rfl, ?_⟩) (Or.inr hS) ?_
      rotate_left
      · (intro w _; go_simp; try with_reducible rfl)
      try simp only [List.getElem_toArray, List.getElem_cons_succ, List.getElem_cons_zero, Act.put, List.setIfInBounds_toArray, List.set_cons_zero, List.set_cons_succ]
      refine wpAnyU_take (i := 15) (v := ?_) rfl (by kernel_rfl) (by kernel_rfl) (by kernel_rfl) (fun _ _ _ h => h) (by kernel_rfl) (Or.inl ⟨by rfl, ?_⟩) hS ?_
      rotate_left
      · (intro w hS; obtain ⟨s1, s2, s3, s4, s5⟩ := hS; go_simp; try with_reducible rfl)
      try simp only [List.getElem_toArray, List.getElem_cons_succ, List.getElem_cons_zero, Act.put, List.setIfInBounds_toArray, List.set_cons_zero, List.set_cons_succ]
      refine wpAnyU_pure (i := 16) (v := ?_) rfl (by kernel_rfl) (by kernel_rfl) (by kernel_rfl) (fun _ _ _ h => h) (by kernel_rfl) (Or.inl ⟨by rfl, ?_⟩) (Or.inr hS) ?_
      rotate_left
      · (intro w _; go_simp; try with_reducible rfl)
      try simp only [List.getElem_toArray, List.getElem_cons_succ, List.getElem_cons_zero, Act.put, List.setIfInBounds_toArray, List.set_cons_zero, List.set_cons_succ]
      refine wpAnyU_pure (i := 17) (v := ?_) rfl (by kernel_rfl) (by kernel_rfl) (by kernel_rfl) (fun _ _ _ h => h) (by kernel_rfl) (Or.inl ⟨by rfl, ?_⟩) (Or.inr hS) ?_
      rotate_left
      · (intro w _; go_simp; try with_reducible rfl)
      try simp only [List.getElem_toArray, List.getElem_cons_succ, List.getElem_cons_zero, Act.put, List.setIfInBounds_toArray, List.set_cons_zero, List.set_cons_succ]
      refine wpAnyU_pure (i := 18) (v := ?_) rfl (by kernel_rfl) (by kernel_rfl) (by kernel_rfl) (fun _ _ _ h => h) (by kernel_rfl) (Or.inl ⟨by rfl, ?_⟩) (Or.inr hS) ?_
      rotate_left
      · (intro w _; go_simp; try with_reducible rfl)
      try simp only [List.getElem_toArray, List.getElem_cons_succ, List.getElem_cons_zero, Act.put, List.setIfInBounds_toArray, List.set_cons_zero, List.set_cons_succ]
      refine wpAnyU_pure (i := 19) (v := undef) rfl (by kernel_rfl) (by kernel_rfl) (by kernel_rfl) (fun _ _ _ h => h) (by kernel_rfl) (Or.inr ⟨by rfl, rfl⟩) (Or.inr hS) ?_
      try simp only [List.getElem_toArray, List.getElem_cons_succ, List.getElem_cons_zero, Act.put, List.setIfInBounds_toArray, List.set_cons_zero, List.set_cons_succ]
      refine wpAnyU_pure (i := 20) (v := undef) rfl (by kernel_rfl) (by kernel_rfl) (by kernel_rfl) (fun _ _ _ h => h) (by kernel_rfl) (Or.inr ⟨by rfl, rfl⟩) (Or.inr hS) ?_
      try simp only [List.getElem_toArray, List.getElem_cons_succ, List.getElem_cons_zero, Act.put, List.setIfInBounds_toArray, List.set_cons_zero, List.set_cons_succ]
      refine wpAnyU_pure (i := 21) (v := undef) rfl (by kernel_rfl) (by kernel_rfl) (by kernel_rfl) (fun _ _ _ h => h) (by kernel_rfl) (Or.inr ⟨by rfl, rfl⟩) (Or.inr hS) ?_
      try simp only [List.getElem_toArray, List.getElem_cons_succ, List.getElem_cons_zero, Act.put, List.setIfInBounds_toArray, List.set_cons_zero, List.set_cons_succ]
      refine wpAnyU_pure (i := 22) (v := undef) rfl (by kernel_rfl) (by kernel_rfl) (by kernel_rfl) (fun _ _ _ h => h) (by kernel_rfl) (Or.inr ⟨by rfl, rfl⟩) (Or.inr hS) ?_
      try simp only [List.getElem_toArray, List.getElem_cons_succ, List.getElem_cons_zero, Act.put, List.setIfInBounds_toArray, List.set_cons_zero, List.set_cons_succ]
      refine wpAnyU_pure (i := 23) (v := undef) rfl (by kernel_rfl) (by kernel_rfl) (by kernel_rfl) (fun _ _ _ h => h) (by kernel_rfl) (Or.inr ⟨by rfl, rfl⟩) (Or.inr hS) ?_
      try simp only [List.getElem_toArray, List.getElem_cons_succ, List.getElem_cons_zero, Act.put, List.setIfInBounds_toArray, List.set_cons_zero, List.set_cons_succ]
      refine wpAnyU_pure (i := 24) (v := undef) rfl (by kernel_rfl) (by kernel_rfl) (by kernel_rfl) (fun _ _ _ h => h) (by kernel_rfl) (Or.inr ⟨by rfl, rfl⟩) (Or.inr hS) ?_
      try simp only [List.getElem_toArray, List.getElem_cons_succ, List.getElem_cons_zero, Act.put, List.setIfInBounds_toArray, List.set_cons_zero, List.set_cons_succ]
      refine wpAnyU_pure (i := 25) (v := undef) rfl (by kernel_rfl) (by kernel_rfl) (by kernel_rfl) (fun _ _ _ h => h) (by kernel_rfl) (Or.inr ⟨by rfl, rfl⟩) (Or.inr hS) ?_
      try simp only [List.getElem_toArray, List.getElem_cons_succ, List.getElem_cons_zero, Act.put, List.setIfInBounds_toArray, List.set_cons_zero, List.set_cons_succ]
      refine wpAnyU_pure (i := 26) (v := ?_) rfl (by kernel_rfl) (by kernel_rfl) (by kernel_rfl) (fun _ _ _ h => h) (by kernel_rfl) (Or.inl ⟨by rfl, ?_⟩) (Or.inr hS) ?_
      rotate_left
      · (intro w _; go_simp; try with_reducible rfl)
      try simp only [List.getElem_toArray, List.getElem_cons_succ, List.getElem_cons_zero, Act.put, List.setIfInBounds_toArray, List.set_cons_zero, List.set_cons_succ]
      refine wpAnyU_done (by kernel_rfl) ?_ _
      go_wp2_with fail
      go_meet
      case rel => exact ⟨_, rfl, Lib.hid ⟨HB67.out, fun h => by cases h⟩⟩
    · skip
      have d9 : decide (frm < 0) = false := decide_eq_false hfz
      have hln := len_any (HIA.out.same (Same.of_below HB67.out (by have := HG.out; omega)))
      refine wpAnyU_pure (i := 12) (v := ?_) rfl (by kernel_rfl) (by kernel_rfl) (by kernel_rfl) (fun _ _ _ h => h) (by kernel_rfl) (Or.inl ⟨by rfl, ?_⟩) (Or.inr hS) ?_
      rotate_left
      · (intro w _; go_simp; try with_reducible rfl)
      try simp only [List.getElem_toArray, List.getElem_cons_succ, List.getElem_cons_zero, Act.put, List.setIfInBounds_toArray, List.set_cons_zero, List.set_cons_succ]
      refine wpAnyU_pure (i := 13) (v := ?_) rfl (by kernel_rfl) (by kernel_rfl) (by kernel_rfl) (fun _ _ _ h => h) (by kernel_rfl) (Or.inl ⟨by rfl, ?_⟩) (Or.inr hS) ?_
      rotate_left
      · (intro w _; go_simp; try with_reducible rfl)
      try simp only [List.getElem_toArray, List.getElem_cons_succ, List.getElem_cons_zero, Act.put, List.setIfInBounds_toArray, List.set_cons_zero, List.set_cons_succ]
      refine wpAnyU_pure (i := 14) (v := ?_) rfl (by kernel_rfl) (by kernel_rfl) (by kernel_rfl) (fun _ _ _ h => h) (by kernel_rfl) (Or.inl ⟨by rfl, ?_⟩) (Or.inr hS) ?_
      rotate_left
      · (intro w _; go_simp; try with_reducible rfl)
      try simp only [List.getElem_toArray, List.getElem_cons_succ, List.getElem_cons_zero, Act.put, List.setIfInBounds_toArray, List.set_cons_zero, List.set_cons_succ]
      refine wpAnyU_take (i := 15) (v := ?_) rfl (by kernel_rfl) (by kernel_rfl) (by kernel_rfl) (fun _ _ _ h => h) (by kernel_rfl) (Or.inl ⟨by rfl, ?_⟩) hS ?_
      rotate_left
      · (intro w hS; obtain ⟨s1, s2, s3, s4, s5⟩ := hS; go_simp; try with_reducible rfl)
      try simp only [List.getElem_toArray, List.getElem_cons_succ, List.getElem_cons_zero, Act.put, List.setIfInBounds_toArray, List.set_cons_zero, List.set_cons_succ]
      refine wpAnyU_pure (i := 16) (v := ?_) rfl (by kernel_rfl) (by kernel_rfl) (by kernel_rfl) (fun _ _ _ h => h) (by kernel_rfl) (Or.inl ⟨by rfl, ?_⟩) (Or.inr hS) ?_
      rotate_left
      · (intro w _; go_simp; try with_reducible rfl)
      try simp only [List.getElem_toArray, List.getElem_cons_succ, List.getElem_cons_zero, Act.put, List.setIfInBounds_toArray, List.set_cons_zero, List.set_cons_succ]
      refine wpAnyU_pure (i := 17) (v := ?_) rfl (by kernel_rfl) (by kernel_rfl) (by kernel_rfl) (fun _ _ _ h => h) (by kernel_rfl) (Or.inl ⟨by rfl, ?_⟩) (Or.inr hS) ?_
      rotate_left
      · (intro w _; go_simp; try with_reducible rfl)
      try simp only [List.getElem_toArray, List.getElem_cons_succ, List.getElem_cons_zero, Act.put, List.setIfInBounds_toArray, List.set_cons_zero, List.set_cons_succ]
      refine wpAnyU_pure (i := 18) (v := ?_) rfl (by kernel_rfl) (by kernel_rfl) (by kernel_rfl) (fun _ _ _ h => h) (by kernel_rfl) (Or.inl ⟨by rfl, ?_⟩) (Or.inr hS) ?_
      rotate_left
      · (intro w _; go_simp; try with_reducible rfl)
      try simp only [List.getElem_toArray, List.getElem_cons_succ, List.getElem_cons_zero, Act.put, List.setIfInBounds_toArray, List.set_cons_zero, List.set_cons_succ]
      refine wpAnyU_pure (i := 19) (v := ?_) rfl (by kernel_rfl) (by kernel_rfl) (by kernel_rfl) (fun _ _ _ h => h) (by kernel_rfl) (Or.inl ⟨by rfl, ?_⟩) (Or.inr hS) ?_
      rotate_left
      · (intro w _; go_simp; try with_reducible rfl)
      try simp only [List.getElem_toArray, List.getElem_cons_succ, List.getElem_cons_zero, Act.put, List.setIfInBounds_toArray, List.set_cons_zero, List.set_cons_succ]
      refine wpAnyU_take (i := 20) (v := ?_) rfl (by kernel_rfl) (by kernel_rfl) (by kernel_rfl) (fun _ _ _ h => h) (by kernel_rfl) (Or.inl ⟨by rfl, ?_⟩) hS ?_
      rotate_left
      · (intro w hS; obtain ⟨s1, s2, s3, s4, s5⟩ := hS; go_simp; try with_reducible rfl)
      try simp only [List.getElem_toArray, List.getElem_cons_succ, List.getElem_cons_zero, Act.put, List.setIfInBounds_toArray, List.set_cons_zero, List.set_cons_succ]
      refine wpAnyU_pure (i := 21) (v := ?_) rfl (by kernel_rfl) (by kernel_rfl) (by kernel_rfl) (fun _ _ _ h => h) (by kernel_rfl) (Or.inl ⟨by rfl, ?_⟩) (Or.inr hS) ?_
      rotate_left
      · (intro w _; go_simp; try with_reducible rfl)
      try simp only [List.getElem_toArray, List.getElem_cons_succ, List.getElem_cons_zero, Act.put, List.setIfInBounds_toArray, List.set_cons_zero, List.set_cons_succ]
      refine wpAnyU_pure (i := 22) (v := ?_) rfl (by kernel_rfl) (by kernel_rfl) (by kernel_rfl) (fun _ _ _ h => h) (by kernel_rfl) (Or.inl ⟨by rfl, ?_⟩) (Or.inr hS) ?_
      rotate_left
      · (intro w _; go_simp; try with_reducible rfl)
      try simp only [List.getElem_toArray, List.getElem_cons_succ, List.getElem_cons_zero, Act.put, List.setIfInBounds_toArray, List.set_cons_zero, List.set_cons_succ]
      refine wpAnyU_pure (i := 23) (v := ?_) rfl (by kernel_rfl) (by kernel_rfl) (by kernel_rfl) (fun _ _ _ h => h) (by kernel_rfl) (Or.inl ⟨by rfl, ?_⟩) (Or.inr hS) ?_
      rotate_left
      · (intro w _; go_simp; try with_reducible rfl)
      try simp only [List.getElem_toArray, List.getElem_cons_succ, List.getElem_cons_zero, Act.put, List.setIfInBounds_toArray, List.set_cons_zero, List.set_cons_succ]
      refine wpAnyU_one (i := 24) (by kernel_rfl) rfl (fun K hK => ?_)
      rw [if_pos (by rfl)]
      simp only [List.getElem_toArray, List.getElem_cons_succ, List.getElem_cons_zero]
      go_simp
      with_reducible refine hln.mono ?_
      rintro e w' ⟨rfl, rfl⟩
      clear hln
      go_simp
      replace hS := hS
      refine hK _ _ (Or.inr hS) ?_
      clear hK K
      try simp only [Array.getInternal_eq_getElem, List.getElem_toArray, List.getElem_cons_succ, List.getElem_cons_zero, Act.put, List.setIfInBounds_toArray, List.set_cons_zero, List.set_cons_succ]
      refine wpAnyU_pure (i := 25) (v := ?_) rfl (by kernel_rfl) (by kernel_rfl) (by kernel_rfl) (fun _ _ _ h => h) (by kernel_rfl) (Or.inl ⟨by rfl, ?_⟩) (Or.inr hS) ?_
      rotate_left
      · (intro w _; go_simp; try with_reducible rfl)
      try simp only [List.getElem_toArray, List.getElem_cons_succ, List.getElem_cons_zero, Act.put, List.setIfInBounds_toArray, List.set_cons_zero, List.set_cons_succ]
      refine wpAnyU_pure (i := 26) (v := ?_) rfl (by kernel_rfl) (by kernel_rfl) (by kernel_rfl) (fun _ _ _ h => h) (by kernel_rfl) (Or.inl ⟨by rfl, ?_⟩) (Or.inr hS) ?_
      rotate_left
      · (intro w _; go_simp; try with_reducible rfl)
      try simp only [List.getElem_toArray, List.getElem_cons_succ, List.getElem_cons_zero, Act.put, List.setIfInBounds_toArray, List.set_cons_zero, List.set_cons_succ]
      refine wpAnyU_done (by kernel_rfl) ?_ _
      go_wp2_with fail
      go_meet
      case rel => exact ⟨_, rfl, Lib.hid ⟨HB67.out, fun h => ⟨ga, ma, rfl, HCA.out.1, HCA.out.2, HIA.out, fun x hx => by have := (HBL.out (by first | rfl | trivial)).2.1 x hx; omega, by omega, by have := of_decide_eq_false h; omega⟩⟩⟩
  case rest =>
  obtain ⟨t, rfl, hct⟩ := hcut
  have HCT := Lib.hid hct.out.2
  have HB67 := Lib.hid hct.out.1
  clear hct
  have B7 := Lib.hid (B6.out.trans (HB67.out.mono B6.out.size))
  have Q1g := Lib.hid (Q1f.out.below HB67.out Q1f.out.lt)
  clear Q1f B6
  cases t with
  | true =>
    go_wp2_with fail
    go_ret
    exact ⟨rfl, B7.out⟩
  | false =>
  obtain ⟨ga, ma, rfl, hca, hsa, hia, hsx, hf0, hfl⟩ := HCT.out rfl
  have HZ6b := HZ6.out
  have HB5s := B5.out.size
  have HB35s := B35.out.size
  have hlb : 1 ≤ (full (preR s ma) s.size).length ∧ (full (preR s ma) s.size).length ≤ 100000 := ⟨by rw [full_length]; omega, by rw [full_length, pre_length]; have := hca.le; omega⟩
  have HMX := Lib.hid (Mx.new B7.out (HMA.out.below HB67.out HMA.out.lt) HB5s)
  have HIN : Hid (InpX wc w3.heap.size w5.heap.size ga (full (preR s ma) s.size) s.data.toList w5.heap.size D0 D0) := Lib.hid ⟨hia.same (Same.of_below HB67.out (by omega)), by have := HB67.out.size; omega, fun k h1 h2 h3 => by have := ft_new h3; omega⟩
  have HSX := Lib.hid hsx
  clear hca hsa hia hsx HCT HB67 HMA HB5s HB35s HZ6b HZ6 B35 B5 B3 HPA B56
  generalize full (preR s ma) s.size = l at HIN hlb hfl
  generalize w5.heap.size = g at HMX HIN HLT ⊢
  have HLB := Lib.hid hlb
  obtain ⟨f, rfl⟩ : ∃ f : Nat, frm = (f : Int) := ⟨frm.toNat, by omega⟩
  obtain ⟨mm, rfl⟩ : ∃ mm : Nat, mo = (mm : Int) := ⟨mo.toNat, by have := HMO.out.1; omega⟩
  have HON := Lib.hid (on_law (n := n) (st := st) (cp := cp) (L := L) (l := l) HX.out.pg.len lng f)
  have HFL : Hid (f < l.length) := Lib.hid (by omega)
  clear hlb hf0 hfl
  have hf1 := HMX.out.find (st := st) (cp := cp) HX.out.pg HSX.out HIN.out HLB.out (f : Int) HX.out.fr false lng
  have x0 := Q1g.out.cell 0
  have x1 := Q1g.out.cell 1
  have x2 := Q1g.out.cell 2
  have x4 := Q1g.out.cell 4
  have x6 := Q1g.out.cell 6
  simp only [List.getElem?_toArray, List.getElem?_cons_zero, List.getElem?_cons_succ] at x0 x1 x2 x4 x6
  go_upto_region 6 with fail
  go_wp2_with fail
  with_reducible refine hf1.mono ?_
  rintro e w9 ⟨v1, E1, E2, rfl, hb1, hM1, hW1⟩
  have HBI1 := Lib.hid hb1
  have HM1 := Lib.hid hM1
  have HIN1 := Lib.hid (HIN.out.went hW1)
  have Q9 := Lib.hid (HMX.out.ty hW1 Q1g.out (by decide) (by decide) (by decide))
  clear hf1 hb1 hM1 hW1 x0 x1 x2 x4 x6 Q1g HMX HIN
  cases hR : fR n st cp L l (f : Int) false lng with
  | none =>
    have HR := Lib.hid hR
    rw [hR] at HBI1
    have hw1 : IntKind.i64.wrap ((mm : Int)) = (mm : Int) := IntWalk.i64_in _ (by have := HMO.out; omega)
    obtain ⟨fm, hfm⟩ : ∃ fm : Nat, fm = f + mm := ⟨_, rfl⟩
    have hw2 : IntKind.i64.wrap ((f : Int) + (mm : Int)) = (fm : Int) := by rw [addN, ← hfm]; exact IntWalk.i64_in _ (by have := HMO.out; have := HFL.out; have := HLB.out; omega)
    have hf2 := HM1.out.find (st := st) (cp := cp) HX.out.pg HSX.out HIN1.out HLB.out (fm : Int) (by have := HMO.out; have := HFL.out; have := HLB.out; omega) false lng
    rw [HON.out.1 HR.out fm (by omega)] at hf2
    have x0 := Q9.out.cell 0
    have x1 := Q9.out.cell 1
    have x2 := Q9.out.cell 2
    have x4 := Q9.out.cell 4
    have x6 := Q9.out.cell 6
    simp only [List.getElem?_toArray, List.getElem?_cons_zero, List.getElem?_cons_succ] at x0 x1 x2 x4 x6
    simp only [Option.isSome_none] at hf2 ⊢
    clear hR hfm
    go_wp2_with fail
    with_reducible refine hf2.mono ?_
    rintro e w10 ⟨v2, F1, F2, rfl, _, hM2, _⟩
    have HB10 := Lib.hid hM2.below
    clear hf2 hM2
    go_wp2_with fail
    go_ret
    exact ⟨rfl, HB10.out⟩
  | some a =>
    obtain ⟨h2a, d, hbeg, hdl, hsame, hlater⟩ := HON.out.2 a hR
    rw [hR] at HBI1
    obtain ⟨⟨b1, o1, cc1, rfl, _, _, hb1l, hb1z, hb1c⟩, _⟩ := HBI1.out
    obtain ⟨s0, hs0⟩ : ∃ s0 : Nat, s0 = f + d := ⟨_, rfl⟩
    have ha0 : a[0]? = some (s0 : Int) := by
      have h0 : a[0]? = some a[0] := List.getElem?_eq_getElem (by omega)
      rw [h0]
      unfold beg at hbeg
      rw [h0] at hbeg
      rw [hs0, ← hbeg]
      rfl
    have k0 := hb1c 0 _ ha0
    rw [Nat.add_zero] at k0
    have hl2 : ¬ (a.length : Int) < 2 := by omega
    have hl0 : (0 : Int) < (a.length : Int) := by omega
    have hl0n : 0 < a.length := by omega
    have hd0 : decide ((s0 : Int) < (f : Int)) = false := decide_eq_false (by omega)
    have hi0 : ¬ (s0 : Int) < (f : Int) := by omega
    have hl2n : ¬ a.length < 2 := by omega
    have hl2d : decide (a.length < 2) = false := decide_eq_false hl2n
    have hl2e : decide ((a.length : Int) < 2) = false := decide_eq_false hl2
    have hi0n : ¬ s0 < f := by omega
    have hi0d : decide (s0 < f) = false := decide_eq_false hi0n
    have hD : Hid (s0 = f + d ∧ f + d < l.length ∧ 2 ≤ a.length) := Lib.hid ⟨hs0, hdl, h2a⟩
    have HSAME := Lib.hid hsame
    have HLATER := Lib.hid hlater
    have HBEG := Lib.hid hbeg
    have HBC := Lib.hid hb1c
    have HBL := Lib.hid (And.intro hb1l hb1z)
    have x4 := Q9.out.cell 4
    simp only [List.getElem?_toArray, List.getElem?_cons_zero, List.getElem?_cons_succ] at x4
    clear hR hbeg hdl hsame hlater hs0 ha0 hb1c hb1l hb1z h2a
    go_upto_region 10 with fail
    go_quiet (fail)
    revert nq
    intro nq1
    go_upto_region 12 with fail
    have hmb : 0 ≤ (mm : Int) ∧ (mm : Int) ≤ 255 := HMO.out
    have hcv : IntKind.i64.wrap (mm : Int) = (mm : Int) := IntWalk.i64_in _ (by omega)
    have hlb := HLB.out
    have hDD := hD.out
    have hs1 : IntKind.i64.wrap ((s0 : Int) - (f : Int)) = (d : Int) := by rw [show (s0 : Int) - (f : Int) = (d : Int) by omega]; exact IntWalk.i64_in _ (by omega)
    obtain ⟨d1, hd1⟩ : ∃ d1 : Nat, d1 = d + 1 := ⟨_, rfl⟩
    have hs2 : IntKind.i64.wrap ((d : Int) + 1) = (d1 : Int) := by rw [show (d : Int) + 1 = (d1 : Int) by omega]; exact IntWalk.i64_in _ (by omega)
    obtain ⟨e1, he1⟩ : ∃ e1 : Nat, e1 = mm % d1 := ⟨_, rfl⟩
    have hed : e1 ≤ d := by have := Nat.mod_lt mm (show 0 < d1 by omega); omega
    have hm1 : Int.tmod (mm : Int) (d1 : Int) = (e1 : Int) := by rw [Int.tmod_eq_emod_of_nonneg (by omega), he1]; rfl
    have hme : IntKind.i64.wrap (e1 : Int) = (e1 : Int) := IntWalk.i64_in _ (by omega)
    obtain ⟨fe, hfe⟩ : ∃ fe : Nat, fe = f + e1 := ⟨_, rfl⟩
    have hs3 : IntKind.i64.wrap ((f : Int) + (e1 : Int)) = (fe : Int) := by rw [addN, ← hfe]; exact IntWalk.i64_in _ (by omega)
    have hdz : ¬ (d1 : Int) = 0 := by omega
    have hdz2 : ((d1 : Int) == 0) = false := by simp; omega
    have HE := Lib.hid (And.intro hed hfe)
    clear hd1 he1 hed hfe hmb hlb hDD hl2 hd0 hi0 hl2n hl2d hl2e hi0n hi0d
    go_quiet (fail)
    go_upto_region 13 with fail
    have hb9 : Below w9.heap.size w9 ((w9.drewN nq1).drewN nq) := (Below.refl _ _).drewN.drewN
    have HM10 := Lib.hid (HM1.out.on hb9)
    have HIN10 := Lib.hid (HIN1.out.on hb9)
    have Q10 := Lib.hid (Q9.out.below hb9 Q9.out.lt)
    have HF10 := Lib.hid (HBI1.out.1.frm (Frm.of_below (S := fun _ => False) hb9) (fun _ h => h.elim) fun _ h => .inl h)
    clear hb9 HM1 HIN1 Q9 HBI1 HBC HBL k0 x4 hcv hs1 hs2 hm1 hme hs3 hdz hdz2
    generalize (w9.drewN nq1).drewN nq = w10 at HM10 HIN10 Q10 HF10 ⊢
    have hR3 : fR n st cp L l (fe : Int) false lng = some a := by rw [HE.out.2]; exact HSAME.out e1 HE.out.1
    have hf3 := HM10.out.find (st := st) (cp := cp) HX.out.pg HSX.out HIN10.out HLB.out (fe : Int) (by have := HE.out; have := hD.out; have := HLB.out; omega) false lng
    rw [hR3] at hf3
    simp only [Option.isSome_some] at hf3
    have x0 := Q10.out.cell 0
    have x1 := Q10.out.cell 1
    have x2 := Q10.out.cell 2
    have x6 := Q10.out.cell 6
    simp only [List.getElem?_toArray, List.getElem?_cons_zero, List.getElem?_cons_succ] at x0 x1 x2 x6
    clear hR3
    go_wp2_with fail
    with_reducible refine hf3.mono ?_
    rintro e w11 ⟨v3, F1, F2, rfl, hb3, hM3, hW3⟩
    have HM11 := Lib.hid hM3
    have HIN11 := Lib.hid (HIN10.out.went hW3)
    have Q11 := Lib.hid (HM10.out.ty hW3 Q10.out (by decide) (by decide) (by decide))
    have HF11 := Lib.hid (hW3.fit HF10.out)
    have HG11 := Lib.hid hb3.1
    clear hf3 hb3 hM3 hW3 x0 x1 x2 x6 HM10 HIN10 Q10 HF10
    obtain ⟨b3, o3, cc3, rfl, _⟩ := HG11.out
    obtain ⟨s1, hs1⟩ : ∃ s1 : Nat, s1 = s0 + 1 := ⟨_, rfl⟩
    have hs4 : IntKind.i64.wrap ((s0 : Int) + 1) = (s1 : Int) := by rw [show (s0 : Int) + 1 = (s1 : Int) by omega]; exact IntWalk.i64_in _ (by have := hD.out; have := HLB.out; omega)
    have HR4 : Hid (∀ b, fR n st cp L l (s1 : Int) false lng = some b → beg a < beg b ∧ 2 ≤ b.length) := Lib.hid (by rw [hs1, hD.out.1]; exact HLATER.out)
    have ha0 : a[0]? = some (s0 : Int) := by
      have h0 : a[0]? = some a[0] := List.getElem?_eq_getElem (by omega)
      rw [h0]
      have hbeg := HBEG.out
      unfold beg at hbeg
      rw [h0] at hbeg
      rw [hD.out.1, ← hbeg]
      rfl
    have HA0 := Lib.hid ha0
    have hf4 := (HM11.out.on (Below.refl _ _).drew).find (st := st) (cp := cp) HX.out.pg HSX.out (HIN11.out.on (Below.refl _ _).drew) HLB.out (s1 : Int) (by have := hD.out; have := HLB.out; omega) false lng
    generalize hR4 : fR n st cp L l (s1 : Int) false lng = R4 at hf4
    rw [hR4] at HR4
    clear hR4 ha0 hs1 HSAME HLATER HBEG HON
    go_upto_region 14 with fail
    have HC11 := HF11.out.cell (i := 0) hl0n
    rw [HA0.out, Option.getD_some] at HC11
    have hS : (fun w' => w'.cell? ⟨w.heap.size, 0, none⟩ = some (.slice A n c) ∧ w'.cell? ⟨w.heap.size, 1, none⟩ = some (.int .i64 st) ∧ w'.cell? ⟨w.heap.size, 2, none⟩ = some (.int .i64 cp) ∧ w'.cell? ⟨w.heap.size, 6, none⟩ = some (.bool lng) ∧ w'.cell? ⟨b1, o1, none⟩ = some (.int .i64 (s0 : Int))) w11.drew := And.intro (Q11.out.cell 0) (And.intro (Q11.out.cell 1) (And.intro (Q11.out.cell 2) (And.intro (Q11.out.cell 6) HC11)))
    refine wp_region_U (S := fun w' => w'.cell? ⟨w.heap.size, 0, none⟩ = some (.slice A n c) ∧ w'.cell? ⟨w.heap.size, 1, none⟩ = some (.int .i64 st) ∧ w'.cell? ⟨w.heap.size, 2, none⟩ = some (.int .i64 cp) ∧ w'.cell? ⟨w.heap.size, 6, none⟩ = some (.bool lng) ∧ w'.cell? ⟨b1, o1, none⟩ = some (.int .i64 (s0 : Int))) (t := 99) (by kernel_rfl) ?_
    refine wpAnyU_pure (i := 0) (v := ?_) rfl (by kernel_rfl) (by kernel_rfl) (by kernel_rfl) (fun _ _ _ h => h) (by kernel_rfl) (Or.inl ⟨by rfl, ?_⟩) (Or.inr hS) ?_
    rotate_left
    · (intro w _; go_simp; try with_reducible rfl)
    try simp only [List.getElem_toArray, List.getElem_cons_zero, Act.put, List.setIfInBounds_toArray, List.set_cons_zero, List.set_cons_succ]
    refine wpAnyU_pure (i := 1) (v := ?_) rfl (by kernel_rfl) (by kernel_rfl) (by kernel_rfl) (fun _ _ _ h => h) (by kernel_rfl) (Or.inl ⟨by rfl, ?_⟩) (Or.inr hS) ?_
    rotate_left
    · (intro w _; go_simp; try with_reducible rfl)
    try simp only [List.getElem_toArray, List.getElem_cons_succ, List.getElem_cons_zero, Act.put, List.setIfInBounds_toArray, List.set_cons_zero, List.set_cons_succ]
    refine wpAnyU_take (i := 2) (v := ?_) rfl (by kernel_rfl) (by kernel_rfl) (by kernel_rfl) (fun _ _ _ h => h) (by kernel_rfl) (Or.inl ⟨by rfl, ?_⟩) hS ?_
    rotate_left
    · (intro w hS; obtain ⟨s1, s2, s3, s4, s5⟩ := hS; go_simp; try with_reducible rfl)
    try simp only [List.getElem_toArray, List.getElem_cons_succ, List.getElem_cons_zero, Act.put, List.setIfInBounds_toArray, List.set_cons_zero, List.set_cons_succ]
    refine wpAnyU_pure (i := 3) (v := ?_) rfl (by kernel_rfl) (by kernel_rfl) (by kernel_rfl) (fun _ _ _ h => h) (by kernel_rfl) (Or.inl ⟨by rfl, ?_⟩) (Or.inr hS) ?_
    rotate_left
    · (intro w _; go_simp; try with_reducible rfl)
    try simp only [List.getElem_toArray, List.getElem_cons_succ, List.getElem_cons_zero, Act.put, List.setIfInBounds_toArray, List.set_cons_zero, List.set_cons_succ]
    refine wpAnyU_pure (i := 4) (v := ?_) rfl (by kernel_rfl) (by kernel_rfl) (by kernel_rfl) (fun _ _ _ h => h) (by kernel_rfl) (Or.inl ⟨by rfl, ?_⟩) (Or.inr hS) ?_
    rotate_left
    · (intro w _; go_simp; try with_reducible rfl)
    try simp only [List.getElem_toArray, List.getElem_cons_succ, List.getElem_cons_zero, Act.put, List.setIfInBounds_toArray, List.set_cons_zero, List.set_cons_succ]
    refine wpAnyU_pure (i := 5) (v := ?_) rfl (by kernel_rfl) (by kernel_rfl) (by kernel_rfl) (fun _ _ _ h => h) (by kernel_rfl) (Or.inl ⟨by rfl, ?_⟩) (Or.inr hS) ?_
    rotate_left
    · (intro w _; go_simp; try with_reducible rfl)
    try simp only [List.getElem_toArray, List.getElem_cons_succ, List.getElem_cons_zero, Act.put, List.setIfInBounds_toArray, List.set_cons_zero, List.set_cons_succ]
    refine wpAnyU_take (i := 6) (v := ?_) rfl (by kernel_rfl) (by kernel_rfl) (by kernel_rfl) (fun _ _ _ h => h) (by kernel_rfl) (Or.inl ⟨by rfl, ?_⟩) hS ?_
    rotate_left
    · (intro w hS; obtain ⟨s1, s2, s3, s4, s5⟩ := hS; go_simp; try with_reducible rfl)
    try simp only [List.getElem_toArray, List.getElem_cons_succ, List.getElem_cons_zero, Act.put, List.setIfInBounds_toArray, List.set_cons_zero, List.set_cons_succ]
    refine wpAnyU_pure (i := 7) (v := ?_) rfl (by kernel_rfl) (by kernel_rfl) (by kernel_rfl) (fun _ _ _ h => h) (by kernel_rfl) (Or.inl ⟨by rfl, ?_⟩) (Or.inr hS) ?_
    rotate_left
    · (intro w _; go_simp; try with_reducible rfl)
    try simp only [List.getElem_toArray, List.getElem_cons_succ, List.getElem_cons_zero, Act.put, List.setIfInBounds_toArray, List.set_cons_zero, List.set_cons_succ]
    refine wpAnyU_pure (i := 8) (v := ?_) rfl (by kernel_rfl) (by kernel_rfl) (by kernel_rfl) (fun _ _ _ h => h) (by kernel_rfl) (Or.inl ⟨by rfl, ?_⟩) (Or.inr hS) ?_
    rotate_left
    · (intro w _; go_simp; try with_reducible rfl)
    try simp only [List.getElem_toArray, List.getElem_cons_succ, List.getElem_cons_zero, Act.put, List.setIfInBounds_toArray, List.set_cons_zero, List.set_cons_succ]
    refine wpAnyU_take (i := 9) (v := ?_) rfl (by kernel_rfl) (by kernel_rfl) (by kernel_rfl) (fun _ _ _ h => h) (by kernel_rfl) (Or.inl ⟨by rfl, ?_⟩) hS ?_
    rotate_left
    · (intro w hS; obtain ⟨s1, s2, s3, s4, s5⟩ := hS; go_simp; try with_reducible rfl)
    try simp only [List.getElem_toArray, List.getElem_cons_succ, List.getElem_cons_zero, Act.put, List.setIfInBounds_toArray, List.set_cons_zero, List.set_cons_succ]
    refine wpAnyU_one (i := 10) (by kernel_rfl) rfl (fun K hK => ?_)
    rw [if_pos (by rfl)]
    simp only [List.getElem_toArray, List.getElem_cons_succ, List.getElem_cons_zero]
    simp (config := {maxSteps := 3000000}) [go_sem]
    with_reducible refine hf4.mono ?_
    rintro e w12 ⟨v4, G1, G2, rfl, hb4, hM4, hW4⟩
    have HM12 := Lib.hid hM4
    have Q12 := Lib.hid ((HM11.out.on (Below.refl _ _).drew).ty hW4 Q11.out.drew (by decide) (by decide) (by decide))
    have HF12 := Lib.hid (hW4.fit (HF11.out.frm (Frm.of_below (S := fun _ => False) (Below.refl _ _).drew) (fun _ h => h.elim) fun _ h => .inl h))
    have HG12 := Lib.hid (hW4.fit (HG11.out.frm (Frm.of_below (S := fun _ => False) (Below.refl _ _).drew) (fun _ h => h.elim) fun _ h => .inl h))
    have HB12 := Lib.hid hb4
    have HC12 := HF12.out.cell (i := 0) hl0n
    rw [HA0.out, Option.getD_some] at HC12
    clear hf4 hb4 hM4 hW4
    go_simp
    replace hS := And.intro (Q12.out.cell 0) (And.intro (Q12.out.cell 1) (And.intro (Q12.out.cell 2) (And.intro (Q12.out.cell 6) HC12)))
    refine hK _ _ (Or.inr hS) ?_
    clear hK K
    try simp only [Array.getInternal_eq_getElem, List.getElem_toArray, List.getElem_cons_succ, List.getElem_cons_zero, Act.put, List.setIfInBounds_toArray, List.set_cons_zero, List.set_cons_succ]
    refine wpAnyU_pure (i := 11) (v := ?_) rfl (by kernel_rfl) (by kernel_rfl) (by kernel_rfl) (fun _ _ _ h => h) (by kernel_rfl) (Or.inl ⟨by rfl, ?_⟩) (Or.inr hS) ?_
    rotate_left
    · (intro w _; go_simp; try with_reducible rfl)
    try simp only [List.getElem_toArray, List.getElem_cons_succ, List.getElem_cons_zero, Act.put, List.setIfInBounds_toArray, List.set_cons_zero, List.set_cons_succ]
    refine wpAnyU_pure (i := 12) (v := ?_) rfl (by kernel_rfl) (by kernel_rfl) (by kernel_rfl) (fun _ _ _ h => h) (by kernel_rfl) (Or.inl ⟨by rfl, ?_⟩) (Or.inr hS) ?_
    rotate_left
    · (intro w _; go_simp; try with_reducible rfl)
    try simp only [List.getElem_toArray, List.getElem_cons_succ, List.getElem_cons_zero, Act.put, List.setIfInBounds_toArray, List.set_cons_zero, List.set_cons_succ]
    refine wpAnyU_pure (i := 13) (v := ?_) rfl (by kernel_rfl) (by kernel_rfl) (by kernel_rfl) (fun _ _ _ h => h) (by kernel_rfl) (Or.inl ⟨by rfl, ?_⟩) (Or.inr hS) ?_
    rotate_left
    · (intro w _; go_simp; try with_reducible rfl)
    try simp only [List.getElem_toArray, List.getElem_cons_succ, List.getElem_cons_zero, Act.put, List.setIfInBounds_toArray, List.set_cons_zero, List.set_cons_succ]
    refine wpAnyU_pure (i := 14) (v := ?_) rfl (by kernel_rfl) (by kernel_rfl) (by kernel_rfl) (fun _ _ _ h => h) (by kernel_rfl) (Or.inl ⟨by rfl, ?_⟩) (Or.inr hS) ?_
    rotate_left
    · (intro w _; go_simp; try with_reducible rfl)
    try simp only [List.getElem_toArray, List.getElem_cons_succ, List.getElem_cons_zero, Act.put, List.setIfInBounds_toArray, List.set_cons_zero, List.set_cons_succ]
    refine wpAnyU_pure (i := 15) (v := ?_) rfl (by kernel_rfl) (by kernel_rfl) (by kernel_rfl) (fun _ _ _ h => h) (by kernel_rfl) (Or.inl ⟨by rfl, ?_⟩) (Or.inr hS) ?_
    rotate_left
    · (intro w _; go_simp; try with_reducible rfl)
    try simp only [List.getElem_toArray, List.getElem_cons_succ, List.getElem_cons_zero, Act.put, List.setIfInBounds_toArray, List.set_cons_zero, List.set_cons_succ]
    refine wpAnyU_pure (i := 16) (v := ?_) rfl (by kernel_rfl) (by kernel_rfl) (by kernel_rfl) (fun _ _ _ h => h) (by kernel_rfl) (Or.inl ⟨by rfl, ?_⟩) (Or.inr hS) ?_
    rotate_left
    · (intro w _; go_simp; try with_reducible rfl)
    try simp only [List.getElem_toArray, List.getElem_cons_succ, List.getElem_cons_zero, Act.put, List.setIfInBounds_toArray, List.set_cons_zero, List.set_cons_succ]
    refine wpAnyU_pure (i := 17) (v := ?_) rfl (by kernel_rfl) (by kernel_rfl) (by kernel_rfl) (fun _ _ _ h => h) (by kernel_rfl) (Or.inl ⟨by rfl, ?_⟩) (Or.inr hS) ?_
    rotate_left
    · (intro w _; go_simp; try with_reducible rfl)
    try simp only [List.getElem_toArray, List.getElem_cons_succ, List.getElem_cons_zero, Act.put, List.setIfInBounds_toArray, List.set_cons_zero, List.set_cons_succ]
    refine wpAnyU_done (by kernel_rfl) ?_ _
    clear hS HC11
    have hil1 : IlIn w12.drew (some ⟨b1, o1, none⟩) a.length cc1 a := (FitIn.il HF12.out).drewN 1
    have hil3 : IlIn w12.drew (some ⟨b3, o3, none⟩) a.length cc3 a := (FitIn.il HG12.out).drewN 1
    have hsm := sameI_any hil1 hil3
    clear hil1 hil3
    go_upto_region 15 with fail
    cases R4 with
    | none =>
      have hS : (fun w' => w'.cell? ⟨b1, o1, none⟩ = some (.int .i64 (s0 : Int))) w12.drew := HC12
      refine wp_region_U (S := fun w' => w'.cell? ⟨b1, o1, none⟩ = some (.int .i64 (s0 : Int))) (t := 99) (by kernel_rfl) ?_
      refine wpAnyU_pure (i := 0) (v := ?_) rfl (by kernel_rfl) (by kernel_rfl) (by kernel_rfl) (fun _ _ _ h => h) (by kernel_rfl) (Or.inl ⟨by rfl, ?_⟩) (Or.inr hS) ?_
      rotate_left
      · (intro w _; go_simp; try with_reducible rfl)
      try simp only [List.getElem_toArray, List.getElem_cons_zero, Act.put, List.setIfInBounds_toArray, List.set_cons_zero, List.set_cons_succ]
      refine wpAnyU_pure (i := 1) (v := ?_) rfl (by kernel_rfl) (by kernel_rfl) (by kernel_rfl) (fun _ _ _ h => h) (by kernel_rfl) (Or.inl ⟨by rfl, ?_⟩) (Or.inr hS) ?_
      rotate_left
      · (intro w _; go_simp; try with_reducible rfl)
      try simp only [List.getElem_toArray, List.getElem_cons_succ, List.getElem_cons_zero, Act.put, List.setIfInBounds_toArray, List.set_cons_zero, List.set_cons_succ]
      refine wpAnyU_pure (i := 2) (v := ?_) rfl (by kernel_rfl) (by kernel_rfl) (by kernel_rfl) (fun _ _ _ h => h) (by kernel_rfl) (Or.inl ⟨by rfl, ?_⟩) (Or.inr hS) ?_
      rotate_left
      · (intro w _; go_simp; try with_reducible rfl)
      try simp only [List.getElem_toArray, List.getElem_cons_succ, List.getElem_cons_zero, Act.put, List.setIfInBounds_toArray, List.set_cons_zero, List.set_cons_succ]
      refine wpAnyU_pure (i := 3) (v := ?_) rfl (by kernel_rfl) (by kernel_rfl) (by kernel_rfl) (fun _ _ _ h => h) (by kernel_rfl) (Or.inl ⟨by rfl, ?_⟩) (Or.inr hS) ?_
      rotate_left
      · (intro w _; go_simp; try with_reducible rfl)
      try simp only [List.getElem_toArray, List.getElem_cons_succ, List.getElem_cons_zero, Act.put, List.setIfInBounds_toArray, List.set_cons_zero, List.set_cons_succ]
      refine wpAnyU_pure (i := 4) (v := ?_) rfl (by kernel_rfl) (by kernel_rfl) (by kernel_rfl) (fun _ _ _ h => h) (by kernel_rfl) (Or.inl ⟨by rfl, ?_⟩) (Or.inr hS) ?_
      rotate_left
      · (intro w _; go_simp; try with_reducible rfl)
      try simp only [List.getElem_toArray, List.getElem_cons_succ, List.getElem_cons_zero, Act.put, List.setIfInBounds_toArray, List.set_cons_zero, List.set_cons_succ]
      refine wpAnyU_pure (i := 5) (v := ?_) rfl (by kernel_rfl) (by kernel_rfl) (by kernel_rfl) (fun _ _ _ h => h) (by kernel_rfl) (Or.inl ⟨by rfl, ?_⟩) (Or.inr hS) ?_
      rotate_left
      · (intro w _; go_simp; try with_reducible rfl)
      try simp only [List.getElem_toArray, List.getElem_cons_succ, List.getElem_cons_zero, Act.put, List.setIfInBounds_toArray, List.set_cons_zero, List.set_cons_succ]
      refine wpAnyU_pure (i := 6) (v := ?_) rfl (by kernel_rfl) (by kernel_rfl) (by kernel_rfl) (fun _ _ _ h => h) (by kernel_rfl) (Or.inl ⟨by rfl, ?_⟩) (Or.inr hS) ?_
      rotate_left
      · (intro w _; go_simp; try with_reducible rfl)
      try simp only [List.getElem_toArray, List.getElem_cons_succ, List.getElem_cons_zero, Act.put, List.setIfInBounds_toArray, List.set_cons_zero, List.set_cons_succ]
      refine wpAnyU_one (i := 7) (by kernel_rfl) rfl (fun K hK => ?_)
      rw [if_pos (by rfl)]
      simp only [List.getElem_toArray, List.getElem_cons_succ, List.getElem_cons_zero]
      simp (config := {maxSteps := 3000000}) [go_sem]
      with_reducible refine hsm.mono ?_
      rintro e w13 ⟨bs, rfl, hbs, hb13⟩
      obtain rfl : bs = true := hbs.2 rfl
      have HB13 := Lib.hid (HM12.out.below.trans ((Below.undrew hb13).mono HM12.out.below.size))
      have HC13 := (World.cell?_of_block (a := ⟨b1, o1, none⟩) (hb13.block b1 (HF12.out.blt))).trans HC12
      clear hsm hbs hb13
      go_simp
      replace hS := HC13
      refine hK _ _ (Or.inr hS) ?_
      clear hK K
      try simp only [Array.getInternal_eq_getElem, List.getElem_toArray, List.getElem_cons_succ, List.getElem_cons_zero, Act.put, List.setIfInBounds_toArray, List.set_cons_zero, List.set_cons_succ]
      refine wpAnyU_pure (i := 8) (v := ?_) rfl (by kernel_rfl) (by kernel_rfl) (by kernel_rfl) (fun _ _ _ h => h) (by kernel_rfl) (Or.inl ⟨by rfl, ?_⟩) (Or.inr hS) ?_
      rotate_left
      · (intro w _; go_simp; try with_reducible rfl)
      try simp only [List.getElem_toArray, List.getElem_cons_succ, List.getElem_cons_zero, Act.put, List.setIfInBounds_toArray, List.set_cons_zero, List.set_cons_succ]
      refine wpAnyU_pure (i := 9) (v := ?_) rfl (by kernel_rfl) (by kernel_rfl) (by kernel_rfl) (fun _ _ _ h => h) (by kernel_rfl) (Or.inl ⟨by rfl, ?_⟩) (Or.inr hS) ?_
      rotate_left
      · (intro w _; go_simp; try with_reducible rfl)
      try simp only [List.getElem_toArray, List.getElem_cons_succ, List.getElem_cons_zero, Act.put, List.setIfInBounds_toArray, List.set_cons_zero, List.set_cons_succ]
      refine wpAnyU_pure (i := 10) (v := ?_) rfl (by kernel_rfl) (by kernel_rfl) (by kernel_rfl) (fun _ _ _ h => h) (by kernel_rfl) (Or.inl ⟨by rfl, ?_⟩) (Or.inr hS) ?_
      rotate_left
      · (intro w _; go_simp; try with_reducible rfl)
      try simp only [List.getElem_toArray, List.getElem_cons_succ, List.getElem_cons_zero, Act.put, List.setIfInBounds_toArray, List.set_cons_zero, List.set_cons_succ]
      refine wpAnyU_pure (i := 11) (v := ?_) rfl (by kernel_rfl) (by kernel_rfl) (by kernel_rfl) (fun _ _ _ h => h) (by kernel_rfl) (Or.inl ⟨by rfl, ?_⟩) (Or.inr hS) ?_
      rotate_left
      · (intro w _; go_simp; try with_reducible rfl)
      try simp only [List.getElem_toArray, List.getElem_cons_succ, List.getElem_cons_zero, Act.put, List.setIfInBounds_toArray, List.set_cons_zero, List.set_cons_succ]
      refine wpAnyU_pure (i := 12) (v := ?_) rfl (by kernel_rfl) (by kernel_rfl) (by kernel_rfl) (fun _ _ _ h => h) (by kernel_rfl) (Or.inl ⟨by rfl, ?_⟩) (Or.inr hS) ?_
      rotate_left
      · (intro w _; go_simp; try with_reducible rfl)
      try simp only [List.getElem_toArray, List.getElem_cons_succ, List.getElem_cons_zero, Act.put, List.setIfInBounds_toArray, List.set_cons_zero, List.set_cons_succ]
      refine wpAnyU_pure (i := 13) (v := undef) rfl (by kernel_rfl) (by kernel_rfl) (by kernel_rfl) (fun _ _ _ h => h) (by kernel_rfl) (Or.inr ⟨by rfl, rfl⟩) (Or.inr hS) ?_
      try simp only [List.getElem_toArray, List.getElem_cons_succ, List.getElem_cons_zero, Act.put, List.setIfInBounds_toArray, List.set_cons_zero, List.set_cons_succ]
      refine wpAnyU_pure (i := 14) (v := undef) rfl (by kernel_rfl) (by kernel_rfl) (by kernel_rfl) (fun _ _ _ h => h) (by kernel_rfl) (Or.inr ⟨by rfl, rfl⟩) (Or.inr hS) ?_
      try simp only [List.getElem_toArray, List.getElem_cons_succ, List.getElem_cons_zero, Act.put, List.setIfInBounds_toArray, List.set_cons_zero, List.set_cons_succ]
      refine wpAnyU_pure (i := 15) (v := undef) rfl (by kernel_rfl) (by kernel_rfl) (by kernel_rfl) (fun _ _ _ h => h) (by kernel_rfl) (Or.inr ⟨by rfl, rfl⟩) (Or.inr hS) ?_
      try simp only [List.getElem_toArray, List.getElem_cons_succ, List.getElem_cons_zero, Act.put, List.setIfInBounds_toArray, List.set_cons_zero, List.set_cons_succ]
      refine wpAnyU_pure (i := 16) (v := undef) rfl (by kernel_rfl) (by kernel_rfl) (by kernel_rfl) (fun _ _ _ h => h) (by kernel_rfl) (Or.inr ⟨by rfl, rfl⟩) (Or.inr hS) ?_
      try simp only [List.getElem_toArray, List.getElem_cons_succ, List.getElem_cons_zero, Act.put, List.setIfInBounds_toArray, List.set_cons_zero, List.set_cons_succ]
      refine wpAnyU_pure (i := 17) (v := undef) rfl (by kernel_rfl) (by kernel_rfl) (by kernel_rfl) (fun _ _ _ h => h) (by kernel_rfl) (Or.inr ⟨by rfl, rfl⟩) (Or.inr hS) ?_
      try simp only [List.getElem_toArray, List.getElem_cons_succ, List.getElem_cons_zero, Act.put, List.setIfInBounds_toArray, List.set_cons_zero, List.set_cons_succ]
      refine wpAnyU_pure (i := 18) (v := undef) rfl (by kernel_rfl) (by kernel_rfl) (by kernel_rfl) (fun _ _ _ h => h) (by kernel_rfl) (Or.inr ⟨by rfl, rfl⟩) (Or.inr hS) ?_
      try simp only [List.getElem_toArray, List.getElem_cons_succ, List.getElem_cons_zero, Act.put, List.setIfInBounds_toArray, List.set_cons_zero, List.set_cons_succ]
      refine wpAnyU_pure (i := 19) (v := undef) rfl (by kernel_rfl) (by kernel_rfl) (by kernel_rfl) (fun _ _ _ h => h) (by kernel_rfl) (Or.inr ⟨by rfl, rfl⟩) (Or.inr hS) ?_
      try simp only [List.getElem_toArray, List.getElem_cons_succ, List.getElem_cons_zero, Act.put, List.setIfInBounds_toArray, List.set_cons_zero, List.set_cons_succ]
      refine wpAnyU_pure (i := 20) (v := undef) rfl (by kernel_rfl) (by kernel_rfl) (by kernel_rfl) (fun _ _ _ h => h) (by kernel_rfl) (Or.inr ⟨by rfl, rfl⟩) (Or.inr hS) ?_
      try simp only [List.getElem_toArray, List.getElem_cons_succ, List.getElem_cons_zero, Act.put, List.setIfInBounds_toArray, List.set_cons_zero, List.set_cons_succ]
      refine wpAnyU_pure (i := 21) (v := undef) rfl (by kernel_rfl) (by kernel_rfl) (by kernel_rfl) (fun _ _ _ h => h) (by kernel_rfl) (Or.inr ⟨by rfl, rfl⟩) (Or.inr hS) ?_
      try simp only [List.getElem_toArray, List.getElem_cons_succ, List.getElem_cons_zero, Act.put, List.setIfInBounds_toArray, List.set_cons_zero, List.set_cons_succ]
      refine wpAnyU_pure (i := 22) (v := undef) rfl (by kernel_rfl) (by kernel_rfl) (by kernel_rfl) (fun _ _ _ h => h) (by kernel_rfl) (Or.inr ⟨by rfl, rfl⟩) (Or.inr hS) ?_
      try simp only [List.getElem_toArray, List.getElem_cons_succ, List.getElem_cons_zero, Act.put, List.setIfInBounds_toArray, List.set_cons_zero, List.set_cons_succ]
      refine wpAnyU_pure (i := 23) (v := undef) rfl (by kernel_rfl) (by kernel_rfl) (by kernel_rfl) (fun _ _ _ h => h) (by kernel_rfl) (Or.inr ⟨by rfl, rfl⟩) (Or.inr hS) ?_
      try simp only [List.getElem_toArray, List.getElem_cons_succ, List.getElem_cons_zero, Act.put, List.setIfInBounds_toArray, List.set_cons_zero, List.set_cons_succ]
      refine wpAnyU_pure (i := 24) (v := undef) rfl (by kernel_rfl) (by kernel_rfl) (by kernel_rfl) (fun _ _ _ h => h) (by kernel_rfl) (Or.inr ⟨by rfl, rfl⟩) (Or.inr hS) ?_
      try simp only [List.getElem_toArray, List.getElem_cons_succ, List.getElem_cons_zero, Act.put, List.setIfInBounds_toArray, List.set_cons_zero, List.set_cons_succ]
      refine wpAnyU_pure (i := 25) (v := ?_) rfl (by kernel_rfl) (by kernel_rfl) (by kernel_rfl) (fun _ _ _ h => h) (by kernel_rfl) (Or.inl ⟨by rfl, ?_⟩) (Or.inr hS) ?_
      rotate_left
      · (intro w _; go_simp; try with_reducible rfl)
      try simp only [List.getElem_toArray, List.getElem_cons_succ, List.getElem_cons_zero, Act.put, List.setIfInBounds_toArray, List.set_cons_zero, List.set_cons_succ]
      refine wpAnyU_pure (i := 26) (v := ?_) rfl (by kernel_rfl) (by kernel_rfl) (by kernel_rfl) (fun _ _ _ h => h) (by kernel_rfl) (Or.inl ⟨by rfl, ?_⟩) (Or.inr hS) ?_
      rotate_left
      · (intro w _; go_simp; try with_reducible rfl)
      try simp only [List.getElem_toArray, List.getElem_cons_succ, List.getElem_cons_zero, Act.put, List.setIfInBounds_toArray, List.set_cons_zero, List.set_cons_succ]
      refine wpAnyU_pure (i := 27) (v := ?_) rfl (by kernel_rfl) (by kernel_rfl) (by kernel_rfl) (fun _ _ _ h => h) (by kernel_rfl) (Or.inl ⟨by rfl, ?_⟩) (Or.inr hS) ?_
      rotate_left
      · (intro w _; go_simp; try with_reducible rfl)
      try simp only [List.getElem_toArray, List.getElem_cons_succ, List.getElem_cons_zero, Act.put, List.setIfInBounds_toArray, List.set_cons_zero, List.set_cons_succ]
      refine wpAnyU_done (by kernel_rfl) ?_ _
      go_wp2_with fail
      go_ret
      exact ⟨rfl, HB13.out⟩
    | some b =>
      obtain ⟨⟨b4, o4, cc4, rfl, _, _, hb4l, _, hb4c⟩, _⟩ := HB12.out
      obtain ⟨hbb, h2b⟩ := HR4.out b rfl
      have hc0 : b[0]? = some (beg b) := by
        have h0 : b[0]? = some b[0] := List.getElem?_eq_getElem (by omega)
        unfold beg
        rw [h0]; rfl
      have k4 := hb4c 0 _ hc0
      rw [Nat.add_zero] at k4
      obtain ⟨c0, hc00⟩ : ∃ c0, c0 = beg b := ⟨_, rfl⟩
      rw [← hc00] at k4 hbb
      have hba : beg a = (s0 : Int) := by unfold beg; rw [HA0.out]; rfl
      rw [hba] at hbb
      have hgt : decide ((s0 : Int) < c0) = true := decide_eq_true hbb
      have hg2 : decide (2 ≤ (b.length : Int)) = true := decide_eq_true (by omega)
      have hg2n : decide (2 ≤ b.length) = true := decide_eq_true h2b
      have hbl0 : (0 : Int) < (b.length : Int) := by omega
      have hbl0n : 0 < b.length := by omega
      have HB4L := Lib.hid hb4l
      clear hb4c hc0 hc00 hba hb4l
      have hS : (fun w' => w'.cell? ⟨b1, o1, none⟩ = some (.int .i64 (s0 : Int)) ∧ w'.cell? ⟨b4, o4, none⟩ = some (.int .i64 c0)) w12.drew := And.intro HC12 k4
      refine wp_region_U (S := fun w' => w'.cell? ⟨b1, o1, none⟩ = some (.int .i64 (s0 : Int)) ∧ w'.cell? ⟨b4, o4, none⟩ = some (.int .i64 c0)) (t := 99) (by kernel_rfl) ?_
      refine wpAnyU_pure (i := 0) (v := ?_) rfl (by kernel_rfl) (by kernel_rfl) (by kernel_rfl) (fun _ _ _ h => h) (by kernel_rfl) (Or.inl ⟨by rfl, ?_⟩) (Or.inr hS) ?_
      rotate_left
      · (intro w _; go_simp; try with_reducible rfl)
      try simp only [List.getElem_toArray, List.getElem_cons_zero, Act.put, List.setIfInBounds_toArray, List.set_cons_zero, List.set_cons_succ]
      refine wpAnyU_pure (i := 1) (v := ?_) rfl (by kernel_rfl) (by kernel_rfl) (by kernel_rfl) (fun _ _ _ h => h) (by kernel_rfl) (Or.inl ⟨by rfl, ?_⟩) (Or.inr hS) ?_
      rotate_left
      · (intro w _; go_simp; try with_reducible rfl)
      try simp only [List.getElem_toArray, List.getElem_cons_succ, List.getElem_cons_zero, Act.put, List.setIfInBounds_toArray, List.set_cons_zero, List.set_cons_succ]
      refine wpAnyU_pure (i := 2) (v := ?_) rfl (by kernel_rfl) (by kernel_rfl) (by kernel_rfl) (fun _ _ _ h => h) (by kernel_rfl) (Or.inl ⟨by rfl, ?_⟩) (Or.inr hS) ?_
      rotate_left
      · (intro w _; go_simp; try with_reducible rfl)
      try simp only [List.getElem_toArray, List.getElem_cons_succ, List.getElem_cons_zero, Act.put, List.setIfInBounds_toArray, List.set_cons_zero, List.set_cons_succ]
      refine wpAnyU_pure (i := 3) (v := ?_) rfl (by kernel_rfl) (by kernel_rfl) (by kernel_rfl) (fun _ _ _ h => h) (by kernel_rfl) (Or.inl ⟨by rfl, ?_⟩) (Or.inr hS) ?_
      rotate_left
      · (intro w _; go_simp; try with_reducible rfl)
      try simp only [List.getElem_toArray, List.getElem_cons_succ, List.getElem_cons_zero, Act.put, List.setIfInBounds_toArray, List.set_cons_zero, List.set_cons_succ]
      refine wpAnyU_pure (i := 4) (v := ?_) rfl (by kernel_rfl) (by kernel_rfl) (by kernel_rfl) (fun _ _ _ h => h) (by kernel_rfl) (Or.inl ⟨by rfl, ?_⟩) (Or.inr hS) ?_
      rotate_left
      · (intro w _; go_simp; try with_reducible rfl)
      try simp only [List.getElem_toArray, List.getElem_cons_succ, List.getElem_cons_zero, Act.put, List.setIfInBounds_toArray, List.set_cons_zero, List.set_cons_succ]
      refine wpAnyU_pure (i := 5) (v := ?_) rfl (by kernel_rfl) (by kernel_rfl) (by kernel_rfl) (fun _ _ _ h => h) (by kernel_rfl) (Or.inl ⟨by rfl, ?_⟩) (Or.inr hS) ?_
      rotate_left
      · (intro w _; go_simp; try with_reducible rfl)
      try simp only [List.getElem_toArray, List.getElem_cons_succ, List.getElem_cons_zero, Act.put, List.setIfInBounds_toArray, List.set_cons_zero, List.set_cons_succ]
      refine wpAnyU_pure (i := 6) (v := ?_) rfl (by kernel_rfl) (by kernel_rfl) (by kernel_rfl) (fun _ _ _ h => h) (by kernel_rfl) (Or.inl ⟨by rfl, ?_⟩) (Or.inr hS) ?_
      rotate_left
      · (intro w _; go_simp; try with_reducible rfl)
      try simp only [List.getElem_toArray, List.getElem_cons_succ, List.getElem_cons_zero, Act.put, List.setIfInBounds_toArray, List.set_cons_zero, List.set_cons_succ]
      refine wpAnyU_one (i := 7) (by kernel_rfl) rfl (fun K hK => ?_)
      rw [if_pos (by rfl)]
      simp only [List.getElem_toArray, List.getElem_cons_succ, List.getElem_cons_zero]
      simp (config := {maxSteps := 3000000}) [go_sem]
      with_reducible refine hsm.mono ?_
      rintro e w13 ⟨bs, rfl, hbs, hb13⟩
      obtain rfl : bs = true := hbs.2 rfl
      have HB13 := Lib.hid (HM12.out.below.trans ((Below.undrew hb13).mono HM12.out.below.size))
      have HC13 := (World.cell?_of_block (a := ⟨b1, o1, none⟩) (hb13.block b1 (HF12.out.blt))).trans HC12
      have K13 := (World.cell?_of_block (a := ⟨b4, o4, none⟩) (hb13.block b4 HB4L.out)).trans k4
      clear hsm hbs hb13
      go_simp
      replace hS := And.intro HC13 K13
      refine hK _ _ (Or.inr hS) ?_
      clear hK K
      try simp only [Array.getInternal_eq_getElem, List.getElem_toArray, List.getElem_cons_succ, List.getElem_cons_zero, Act.put, List.setIfInBounds_toArray, List.set_cons_zero, List.set_cons_succ]
      refine wpAnyU_pure (i := 8) (v := ?_) rfl (by kernel_rfl) (by kernel_rfl) (by kernel_rfl) (fun _ _ _ h => h) (by kernel_rfl) (Or.inl ⟨by rfl, ?_⟩) (Or.inr hS) ?_
      rotate_left
      · (intro w _; go_simp; try with_reducible rfl)
      try simp only [List.getElem_toArray, List.getElem_cons_succ, List.getElem_cons_zero, Act.put, List.setIfInBounds_toArray, List.set_cons_zero, List.set_cons_succ]
      refine wpAnyU_pure (i := 9) (v := ?_) rfl (by kernel_rfl) (by kernel_rfl) (by kernel_rfl) (fun _ _ _ h => h) (by kernel_rfl) (Or.inl ⟨by rfl, ?_⟩) (Or.inr hS) ?_
      rotate_left
      · (intro w _; go_simp; try with_reducible rfl)
      try simp only [List.getElem_toArray, List.getElem_cons_succ, List.getElem_cons_zero, Act.put, List.setIfInBounds_toArray, List.set_cons_zero, List.set_cons_succ]
      refine wpAnyU_pure (i := 10) (v := ?_) rfl (by kernel_rfl) (by kernel_rfl) (by kernel_rfl) (fun _ _ _ h => h) (by kernel_rfl) (Or.inl ⟨by rfl, ?_⟩) (Or.inr hS) ?_
      rotate_left
      · (intro w _; go_simp; try with_reducible rfl)
      try simp only [List.getElem_toArray, List.getElem_cons_succ, List.getElem_cons_zero, Act.put, List.setIfInBounds_toArray, List.set_cons_zero, List.set_cons_succ]
      refine wpAnyU_pure (i := 11) (v := ?_) rfl (by kernel_rfl) (by kernel_rfl) (by kernel_rfl) (fun _ _ _ h => h) (by kernel_rfl) (Or.inl ⟨by rfl, ?_⟩) (Or.inr hS) ?_
      rotate_left
      · (intro w _; go_simp; try with_reducible rfl)
      try simp only [List.getElem_toArray, List.getElem_cons_succ, List.getElem_cons_zero, Act.put, List.setIfInBounds_toArray, List.set_cons_zero, List.set_cons_succ]
      refine wpAnyU_pure (i := 12) (v := ?_) rfl (by kernel_rfl) (by kernel_rfl) (by kernel_rfl) (fun _ _ _ h => h) (by kernel_rfl) (Or.inl ⟨by rfl, ?_⟩) (Or.inr hS) ?_
      rotate_left
      · (intro w _; go_simp; try with_reducible rfl)
      try simp only [List.getElem_toArray, List.getElem_cons_succ, List.getElem_cons_zero, Act.put, List.setIfInBounds_toArray, List.set_cons_zero, List.set_cons_succ]
      refine wpAnyU_pure (i := 13) (v := ?_) rfl (by kernel_rfl) (by kernel_rfl) (by kernel_rfl) (fun _ _ _ h => h) (by kernel_rfl) (Or.inl ⟨by rfl, ?_⟩) (Or.inr hS) ?_
      rotate_left
      · (intro w _; go_simp; try with_reducible rfl)
      try simp only [List.getElem_toArray, List.getElem_cons_succ, List.getElem_cons_zero, Act.put, List.setIfInBounds_toArray, List.set_cons_zero, List.set_cons_succ]
      refine wpAnyU_take (i := 14) (v := ?_) rfl (by kernel_rfl) (by kernel_rfl) (by kernel_rfl) (fun _ _ _ h => h) (by kernel_rfl) (Or.inl ⟨by rfl, ?_⟩) hS ?_
      rotate_left
      · (intro w hS; obtain ⟨s1, s2⟩ := hS; go_simp; try with_reducible rfl)
      try simp only [List.getElem_toArray, List.getElem_cons_succ, List.getElem_cons_zero, Act.put, List.setIfInBounds_toArray, List.set_cons_zero, List.set_cons_succ]
      refine wpAnyU_pure (i := 15) (v := ?_) rfl (by kernel_rfl) (by kernel_rfl) (by kernel_rfl) (fun _ _ _ h => h) (by kernel_rfl) (Or.inl ⟨by rfl, ?_⟩) (Or.inr hS) ?_
      rotate_left
      · (intro w _; go_simp; try with_reducible rfl)
      try simp only [List.getElem_toArray, List.getElem_cons_succ, List.getElem_cons_zero, Act.put, List.setIfInBounds_toArray, List.set_cons_zero, List.set_cons_succ]
      refine wpAnyU_pure (i := 16) (v := ?_) rfl (by kernel_rfl) (by kernel_rfl) (by kernel_rfl) (fun _ _ _ h => h) (by kernel_rfl) (Or.inl ⟨by rfl, ?_⟩) (Or.inr hS) ?_
      rotate_left
      · (intro w _; go_simp; try with_reducible rfl)
      try simp only [List.getElem_toArray, List.getElem_cons_succ, List.getElem_cons_zero, Act.put, List.setIfInBounds_toArray, List.set_cons_zero, List.set_cons_succ]
      refine wpAnyU_pure (i := 17) (v := ?_) rfl (by kernel_rfl) (by kernel_rfl) (by kernel_rfl) (fun _ _ _ h => h) (by kernel_rfl) (Or.inl ⟨by rfl, ?_⟩) (Or.inr hS) ?_
      rotate_left
      · (intro w _; go_simp; try with_reducible rfl)
      try simp only [List.getElem_toArray, List.getElem_cons_succ, List.getElem_cons_zero, Act.put, List.setIfInBounds_toArray, List.set_cons_zero, List.set_cons_succ]
      refine wpAnyU_pure (i := 18) (v := ?_) rfl (by kernel_rfl) (by kernel_rfl) (by kernel_rfl) (fun _ _ _ h => h) (by kernel_rfl) (Or.inl ⟨by rfl, ?_⟩) (Or.inr hS) ?_
      rotate_left
      · (intro w _; go_simp; try with_reducible rfl)
      try simp only [List.getElem_toArray, List.getElem_cons_succ, List.getElem_cons_zero, Act.put, List.setIfInBounds_toArray, List.set_cons_zero, List.set_cons_succ]
      refine wpAnyU_take (i := 19) (v := ?_) rfl (by kernel_rfl) (by kernel_rfl) (by kernel_rfl) (fun _ _ _ h => h) (by kernel_rfl) (Or.inl ⟨by rfl, ?_⟩) hS ?_
      rotate_left
      · (intro w hS; obtain ⟨s1, s2⟩ := hS; go_simp; try with_reducible rfl)
      try simp only [List.getElem_toArray, List.getElem_cons_succ, List.getElem_cons_zero, Act.put, List.setIfInBounds_toArray, List.set_cons_zero, List.set_cons_succ]
      refine wpAnyU_pure (i := 20) (v := ?_) rfl (by kernel_rfl) (by kernel_rfl) (by kernel_rfl) (fun _ _ _ h => h) (by kernel_rfl) (Or.inl ⟨by rfl, ?_⟩) (Or.inr hS) ?_
      rotate_left
      · (intro w _; go_simp; try with_reducible rfl)
      try simp only [List.getElem_toArray, List.getElem_cons_succ, List.getElem_cons_zero, Act.put, List.setIfInBounds_toArray, List.set_cons_zero, List.set_cons_succ]
      refine wpAnyU_pure (i := 21) (v := ?_) rfl (by kernel_rfl) (by kernel_rfl) (by kernel_rfl) (fun _ _ _ h => h) (by kernel_rfl) (Or.inl ⟨by rfl, ?_⟩) (Or.inr hS) ?_
      rotate_left
      · (intro w _; go_simp; try with_reducible rfl)
      try simp only [List.getElem_toArray, List.getElem_cons_succ, List.getElem_cons_zero, Act.put, List.setIfInBounds_toArray, List.set_cons_zero, List.set_cons_succ]
      refine wpAnyU_take (i := 22) (v := ?_) rfl (by kernel_rfl) (by kernel_rfl) (by kernel_rfl) (fun _ _ _ h => h) (by kernel_rfl) (Or.inl ⟨by rfl, ?_⟩) hS ?_
      rotate_left
      · (intro w hS; obtain ⟨s1, s2⟩ := hS; go_simp; try with_reducible rfl)
      try simp only [List.getElem_toArray, List.getElem_cons_succ, List.getElem_cons_zero, Act.put, List.setIfInBounds_toArray, List.set_cons_zero, List.set_cons_succ]
      refine wpAnyU_pure (i := 23) (v := ?_) rfl (by kernel_rfl) (by kernel_rfl) (by kernel_rfl) (fun _ _ _ h => h) (by kernel_rfl) (Or.inl ⟨by rfl, ?_⟩) (Or.inr hS) ?_
      rotate_left
      · (intro w _; go_simp; try with_reducible rfl)
      try simp only [List.getElem_toArray, List.getElem_cons_succ, List.getElem_cons_zero, Act.put, List.setIfInBounds_toArray, List.set_cons_zero, List.set_cons_succ]
      refine wpAnyU_pure (i := 24) (v := ?_) rfl (by kernel_rfl) (by kernel_rfl) (by kernel_rfl) (fun _ _ _ h => h) (by kernel_rfl) (Or.inl ⟨by rfl, ?_⟩) (Or.inr hS) ?_
      rotate_left
      · (intro w _; go_simp; try with_reducible rfl)
      try simp only [List.getElem_toArray, List.getElem_cons_succ, List.getElem_cons_zero, Act.put, List.setIfInBounds_toArray, List.set_cons_zero, List.set_cons_succ]
      refine wpAnyU_pure (i := 25) (v := ?_) rfl (by kernel_rfl) (by kernel_rfl) (by kernel_rfl) (fun _ _ _ h => h) (by kernel_rfl) (Or.inl ⟨by rfl, ?_⟩) (Or.inr hS) ?_
      rotate_left
      · (intro w _; go_simp; try with_reducible rfl)
      try simp only [List.getElem_toArray, List.getElem_cons_succ, List.getElem_cons_zero, Act.put, List.setIfInBounds_toArray, List.set_cons_zero, List.set_cons_succ]
      refine wpAnyU_pure (i := 26) (v := ?_) rfl (by kernel_rfl) (by kernel_rfl) (by kernel_rfl) (fun _ _ _ h => h) (by kernel_rfl) (Or.inl ⟨by rfl, ?_⟩) (Or.inr hS) ?_
      rotate_left
      · (intro w _; go_simp; try with_reducible rfl)
      try simp only [List.getElem_toArray, List.getElem_cons_succ, List.getElem_cons_zero, Act.put, List.setIfInBounds_toArray, List.set_cons_zero, List.set_cons_succ]
      refine wpAnyU_pure (i := 27) (v := ?_) rfl (by kernel_rfl) (by kernel_rfl) (by kernel_rfl) (fun _ _ _ h => h) (by kernel_rfl) (Or.inl ⟨by rfl, ?_⟩) (Or.inr hS) ?_
      rotate_left
      · (intro w _; go_simp; try with_reducible rfl)
      try simp only [List.getElem_toArray, List.getElem_cons_succ, List.getElem_cons_zero, Act.put, List.setIfInBounds_toArray, List.set_cons_zero, List.set_cons_succ]
      refine wpAnyU_done (by kernel_rfl) ?_ _
      go_wp2_with fail
      go_ret
      exact ⟨rfl, HB13.out⟩
end Go.Proofs.YtbhcgjahlfpjoaaDoor
