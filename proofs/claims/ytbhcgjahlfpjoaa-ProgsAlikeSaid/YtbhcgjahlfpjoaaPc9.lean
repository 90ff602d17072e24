/- Layer 12's law: its head. -/
import Derived.Test.YtbhcgjahlfpjoaaPc8
namespace Go.Proofs.Ytbhcgjahlfpjoaa
open Go.RowKit

theorem lit_il (W : World) {g : Nat} (hg : g = W.heap.size) (ty : TypeId) (l : List Int) (h1 : l.length ≤ 1000) : IlIn (W.alloc (.cells (i64s l).toArray ty)) (some ⟨g, 0, none⟩) l.length l.length l := by
  subst hg; exact IlIn.lit W ty l h1
theorem lit_rg (W : World) {g : Nat} (hg : g = W.heap.size) (ty : TypeId) (l : List Rg) (h1 : l.length ≤ 1000) (hf : ∀ p ∈ l, (-2147483648 ≤ p.1 ∧ p.1 ≤ 2147483647) ∧ (-2147483648 ≤ p.2 ∧ p.2 ≤ 2147483647)) : RgIn (W.alloc (.cells (rgCells l).toArray ty)) (some ⟨g, 0, none⟩) l.length l.length l := by
  refine ⟨?_, rfl, Nat.le_refl _, by unfold maxLen; omega, (fun h => by cases h), hf⟩
  have := Rd.newAt (lo := 0) W (rgCells l) ty (0, 0) g hg (Nat.zero_le _)
  exact this.mono (Nat.le_refl _) (by simp; omega)
theorem lit_pg (W : World) {g : Nat} (hg : g = W.heap.size) (ty : TypeId) (L : List MI) (h1 : L.length ≤ 1000) (hs : ∀ x ∈ L, x.In W) : PgIn (W.alloc (.cells (miCells L).toArray ty)) (some ⟨g, 0, none⟩) L.length L.length L := by
  refine ⟨?_, rfl, Nat.le_refl _, by unfold maxLen; omega, (fun h => by cases h), fun x hx => (hs x hx).below ((Below.refl _ _).alloc (Nat.le_refl _) _)⟩
  have := Rd.newAt (lo := 0) W (miCells L) ty (0, 0) g hg (Nat.zero_le _)
  exact this.mono (Nat.le_refl _) (by simp; omega)
theorem rg_empty (W : World) : RgIn W none 0 0 [] := ⟨Rd.nil, rfl, Nat.le_refl _, Nat.zero_le _, fun _ => rfl, fun _ h => by cases h⟩
theorem pg_empty (W : World) : PgIn W none 0 0 [] := ⟨Rd.nil, rfl, Nat.le_refl _, Nat.zero_le _, fun _ => rfl, fun _ h => by cases h⟩
/-- The head's program. -/
def L12 (g : Nat) : List MI := [⟨1, 0, 0, none, 0, 0, 0, []⟩, ⟨2, 0, 0, some ⟨g, 0, none⟩, 1, 1, 0, [(97, 97)]⟩, ⟨3, 1, 0, none, 0, 0, 0, []⟩]
theorem L12_ok (g : Nat) : PgOK 3 2 2 (L12 g) := by
  refine ⟨by omega, by omega, by omega, by omega, by omega, by omega, by omega, fun x hx => ?_⟩
  simp only [L12, List.mem_cons, List.not_mem_nil, or_false] at hx
  rcases hx with rfl | rfl | rfl
  · exact .inl ⟨.inl rfl, rfl, rfl, rfl, rfl⟩
  · exact .inr (.inl ⟨rfl, (show (0 : Int) ≤ 0 by decide), (show (0 : Int) < 3 by decide), rfl, (show 0 < 1 by decide), by simp [Canon, maxR], rfl⟩)
  · exact .inr (.inr (.inl ⟨rfl, by decide, by decide, by decide, by decide, rfl, rfl⟩))
theorem L12_runs (g : Nat) (T : MI → Bool) : Runs (L12 g) T false [2] (CS.start 3) ⟨[true, true, true], [1], true⟩ := by
  refine .step ⟨3, 1, 0, none, 0, 0, 0, []⟩ rfl rfl rfl ?_
  show Runs (L12 g) T false [1, 0] ⟨[false, false, true], [], false⟩ _
  refine .step ⟨2, 0, 0, some ⟨g, 0, none⟩, 1, 1, 0, [(97, 97)]⟩ rfl rfl rfl ?_
  show Runs (L12 g) T false [0] ⟨[false, true, true], [1], false⟩ _
  refine .step ⟨1, 0, 0, none, 0, 0, 0, []⟩ rfl rfl rfl ?_
  exact .nil _
theorem L12_in (_w : World) : InL 3 [2] := fun pc h => by rw [List.mem_singleton] at h; subst h; decide

set_option maxRecDepth 20000 in
set_option maxHeartbeats 1000000 in
theorem head12_any (w : World) : Calls Try.prog 36 #[] w fun e w' => e = .returned (.bool true) ∧ Below w.heap.size w w' := by
  have b1 : Below w.heap.size w (w.alloc (.cells #[.int .i32 97, .int .i32 97] 71)) := (Below.refl _ _).alloc (Nat.le_refl _) _
  have r1 : RgIn (w.alloc (.cells #[.int .i32 97, .int .i32 97] 71)) (some ⟨w.heap.size, 0, none⟩) 1 1 [(97, 97)] := lit_rg w rfl 71 [(97, 97)] (by decide) (by intro p hp; rw [List.mem_singleton] at hp; subst hp; decide)
  have s1 : (w.alloc (.cells #[.int .i32 97, .int .i32 97] 71)).heap.size = w.heap.size + 1 := by simp
  generalize hw1 : w.alloc (.cells #[.int .i32 97, .int .i32 97] 71) = w1 at b1 r1 s1
  have b2 := b1.alloc b1.size (.cells #[.int .i64 1, .int .i64 0, .int .i64 0, .slice none 0 0, .int .i64 0, .int .i64 2, .int .i64 0, .int .i64 0, .slice (some ⟨w.heap.size, 0, none⟩) 1 1, .int .i64 0, .int .i64 3, .int .i64 1, .int .i64 0, .slice none 0 0, .int .i64 0] 60)
  have p2 : PgIn (w1.alloc (.cells #[.int .i64 1, .int .i64 0, .int .i64 0, .slice none 0 0, .int .i64 0, .int .i64 2, .int .i64 0, .int .i64 0, .slice (some ⟨w.heap.size, 0, none⟩) 1 1, .int .i64 0, .int .i64 3, .int .i64 1, .int .i64 0, .slice none 0 0, .int .i64 0] 60)) (some ⟨w.heap.size + 1, 0, none⟩) 3 3 (L12 w.heap.size) :=
    lit_pg w1 s1.symm 60 (L12 w.heap.size) (by simp [L12]) (fun x hx => by
      simp only [L12, List.mem_cons, List.not_mem_nil, or_false] at hx
      rcases hx with rfl | rfl | rfl
      · exact rg_empty _
      · exact r1
      · exact rg_empty _)
  have s2 : (w1.alloc (.cells #[.int .i64 1, .int .i64 0, .int .i64 0, .slice none 0 0, .int .i64 0, .int .i64 2, .int .i64 0, .int .i64 0, .slice (some ⟨w.heap.size, 0, none⟩) 1 1, .int .i64 0, .int .i64 3, .int .i64 1, .int .i64 0, .slice none 0 0, .int .i64 0] 60)).heap.size = w.heap.size + 1 + 1 := by simp [s1]
  generalize hw2 : w1.alloc (.cells #[.int .i64 1, .int .i64 0, .int .i64 0, .slice none 0 0, .int .i64 0, .int .i64 2, .int .i64 0, .int .i64 0, .slice (some ⟨w.heap.size, 0, none⟩) 1 1, .int .i64 0, .int .i64 3, .int .i64 1, .int .i64 0, .slice none 0 0, .int .i64 0] 60) = w2 at b2 p2 s2
  have b3 := b2.alloc b2.size (.cells #[.slice (some ⟨w.heap.size + 1, 0, none⟩) 3 3, .int .i64 2, .int .i64 2] 38)
  have p3 := p2.below ((Below.refl w2.heap.size w2).alloc (Nat.le_refl _) (.cells #[.slice (some ⟨w.heap.size + 1, 0, none⟩) 3 3, .int .i64 2, .int .i64 2] 38))
  have k3 := Blk.new w2 38 #[.slice (some ⟨w.heap.size + 1, 0, none⟩) 3 3, .int .i64 2, .int .i64 2]
  have s3 : (w2.alloc (.cells #[.slice (some ⟨w.heap.size + 1, 0, none⟩) 3 3, .int .i64 2, .int .i64 2] 38)).heap.size = w.heap.size + 1 + 1 + 1 := by simp [s2]
  rw [s2] at k3
  generalize hw3 : w2.alloc (.cells #[.slice (some ⟨w.heap.size + 1, 0, none⟩) 3 3, .int .i64 2, .int .i64 2] 38) = w3 at b3 p3 s3 k3
  have b4 := b3.alloc b3.size (.cells #[.int .i64 2] 3)
  have p4 := p3.below ((Below.refl w3.heap.size w3).alloc (Nat.le_refl _) (.cells #[.int .i64 2] 3))
  have i4 : IlIn (w3.alloc (.cells #[.int .i64 2] 3)) (some ⟨w.heap.size + 1 + 1 + 1, 0, none⟩) 1 1 [2] := lit_il w3 s3.symm 3 [2] (by decide)
  have k4 := k3.alloc (.cells #[.int .i64 2] 3)
  have hsm : ∀ x ∈ L12 w.heap.size, x.n ≤ 1000000 := fun x hx => by
    simp only [L12, List.mem_cons, List.not_mem_nil, or_false] at hx
    rcases hx with rfl | rfl | rfl <;> simp
  have hcl := closure_any (st := 2) (cp := 2) p4 hsm i4 0 false
  have HS := Lib.hid hsm
  have HB4 := Lib.hid b4
  have HP4 := Lib.hid p4
  have HK4 := Lib.hid k4
  have HW1 := Lib.hid hw1
  have HW2 := Lib.hid hw2
  have HW3 := Lib.hid hw3
  clear b1 r1 s1 b2 p2 s2 b3 p3 s3 b4 p4 i4 k3 k4 hsm hw1 hw2 hw3
  go_enter Try.func36, Try.ntmps36
  go_wp2_with fail
  rw [HW1.out, HW2.out, HW3.out]
  clear HW1 HW2 HW3
  generalize w3.alloc (.cells #[.int .i64 2] 3) = w4 at HB4 HP4 HK4 hcl ⊢
  refine hcl.mono ?_
  rintro e w5 ⟨hb5, hc⟩
  rcases hc with ⟨hno, _⟩ | ⟨_, _, s, O, oc, hrun, rfl, hown⟩
  · exact absurd ⟨L12_ok _, L12_in w⟩ hno
  obtain rfl := hrun.det (L12_runs _ _)
  obtain ⟨g, cap, hform, hgb, hglt⟩ := hown.form (by decide)
  have hO : O = some ⟨g, 0, none⟩ := by injection hform
  subst hO
  have hce : w5.cell? ⟨g, 0, none⟩ = some (.int .i64 1) := by
    have := hown.cells (g := g) rfl 0 (.int .i64 1) rfl
    simpa [Addr.add] using this
  have k5 := HK4.out.below hb5 HK4.out.lt
  have d0 := k5.cell 0
  have d1 := k5.cell 1
  have d2 := k5.cell 2
  simp only [List.getElem?_toArray, List.getElem?_cons_zero, List.getElem?_cons_succ] at d0 d1 d2
  have hchk := pcheck_any (st := 2) (cp := 2) (HP4.out.below hb5) HS.out
  have HB5 := Lib.hid (HB4.out.trans (hb5.mono HB4.out.size))
  have HC5 := Lib.hid hce
  have HLT := Lib.hid hglt
  clear hcl hrun hown hform hb5 hgb k5 hce hglt
  go_wp2_with fail
  refine hchk.mono ?_
  rintro e w6 ⟨v, rfl, hv, hb6⟩
  obtain ⟨rfl⟩ : v = 0 := by
    rcases hv with ⟨h, _⟩ | ⟨_, h⟩
    · exact h
    · exact absurd (L12_ok _) h
  have hchk2 := pcheck_any (w := w6) (st := 0) (cp := 0) (pg_empty w6) (fun x hx => by cases hx)
  have HB6 := Lib.hid (HB5.out.trans (hb6.mono HB5.out.size))
  have HC6 := Lib.hid ((hb6.cell (p := ⟨g, 0, none⟩) HLT.out).trans HC5.out)
  have HLT6 := Lib.hid (Nat.lt_of_lt_of_le HLT.out hb6.size)
  clear hchk hv hb6 HC5 HLT d0 d1 d2
  go_wp2_with fail
  refine hchk2.mono ?_
  rintro e w7 ⟨v, rfl, hv, hb7⟩
  obtain ⟨rfl⟩ : v = 121 := by
    rcases hv with ⟨_, h⟩ | ⟨h, _⟩
    · exact absurd h.1 (by decide)
    · exact h
  have HB7 := Lib.hid (HB6.out.trans (hb7.mono HB6.out.size))
  have hc7 := (hb7.cell (p := ⟨g, 0, none⟩) HLT6.out).trans HC6.out
  clear hchk2 hv hb7 HC6 HLT6
  go_wp2_with fail
  go_ret
  exact ⟨rfl, HB7.out⟩
end Go.Proofs.Ytbhcgjahlfpjoaa
