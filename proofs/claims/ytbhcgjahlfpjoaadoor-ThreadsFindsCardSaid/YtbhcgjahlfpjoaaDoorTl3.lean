/- Threads' laws: the head. -/
import Derived.Test.YtbhcgjahlfpjoaaDoorTl2
import Derived.Test.YtbhcgjahlfpjoaaDoorTf3
namespace Go.Proofs.YtbhcgjahlfpjoaaDoor
open Go.RowKit
theorem lit_il (W : World) {g : Nat} (hg : g = W.heap.size) (ty : TypeId) (l : List Int) (h1 : l.length ≤ 1000) : IlIn (W.alloc (.cells (i64s l).toArray ty)) (some ⟨g, 0, none⟩) l.length l.length l := by
  subst hg; exact IlIn.lit W ty l h1
theorem lit_rg (W : World) {g : Nat} (hg : g = W.heap.size) (ty : TypeId) (l : List Rg) (h1 : l.length ≤ 1000) (hf : ∀ p ∈ l, (-2147483648 ≤ p.1 ∧ p.1 ≤ 2147483647) ∧ (-2147483648 ≤ p.2 ∧ p.2 ≤ 2147483647)) : RgIn (W.alloc (.cells (rgCells l).toArray ty)) (some ⟨g, 0, none⟩) l.length l.length l := by
  refine ⟨?_, rfl, Nat.le_refl _, by unfold maxLen; omega, (fun h => by cases h), hf⟩
  have := Rd.newAt (lo := 0) W (rgCells l) ty (0, 0) g hg (Nat.zero_le _)
  exact this.mono (Nat.le_refl _) (by simp; omega)
theorem lit_pg (W : World) {g : Nat} (hg : g = W.heap.size) (ty : TypeId) (L : List MI) (h1 : L.length ≤ 1000) (hs : ∀ x ∈ L, x.In W) : PgIn (W.alloc (.cells (miCells L).toArray ty)) (some ⟨g, 0, none⟩) L.length L.length L := by
  refine ⟨?_, rfl, Nat.le_refl _, by unfold maxLen; omega, (fun h => by cases h), fun x hx => (hs x hx).below ((Below.refl _ _).alloc (Nat.le_refl _) _)⟩
  have := Rd.newAt (lo := 0) W (miCells L) ty (0, 0) g hg (Nat.zero_le _)
  exact this.mono (Nat.le_refl _) (by simp; omega)
theorem rg_empty (W : World) : RgIn W none 0 0 [] := ⟨Rd.nil, rfl, Nat.le_refl _, Nat.zero_le _, fun _ => rfl, fun _ h => by cases h⟩
theorem pg_empty (W : World) : PgIn W none 0 0 [] := ⟨Rd.nil, rfl, Nat.le_refl _, Nat.zero_le _, fun _ => rfl, fun _ h => by cases h⟩
def L17 (g : Nat) : List MI := [⟨1, 0, 0, none, 0, 0, 0, []⟩, ⟨2, 0, 0, some ⟨g, 0, none⟩, 1, 1, 0, [(97, 97)]⟩]
theorem L17_ok (g : Nat) : PgOK 2 1 2 (L17 g) := by
  refine ⟨by omega, by omega, by omega, by omega, by omega, by omega, by omega, fun x hx => ?_⟩
  simp only [L17, List.mem_cons, List.not_mem_nil, or_false] at hx
  rcases hx with rfl | rfl
  · exact .inl ⟨.inl rfl, rfl, rfl, rfl, rfl⟩
  · exact .inr (.inl ⟨rfl, (show (0 : Int) ≤ 0 by decide), (show (0 : Int) < 2 by decide), rfl, (show 0 < 1 by decide), by simp [Canon, maxR], rfl⟩)
def baS : ByteArray := ⟨#[98, 97]⟩
theorem baCnt : Cnt baS 2 := ⟨by decide, fun k hk => by
  have : k = 0 ∨ k = 1 := by omega
  rcases this with rfl | rfl <;> decide⟩
theorem ba_full : full (preR baS 2) baS.size = [(98, 0), (97, 1), (-1, 2)] := by decide
theorem L17_find (g : Nat) : findP (L17 g) (TP [(98, 0), (97, 1), (-1, 2)]) (RP [(98, 0), (97, 1), (-1, 2)]) 1 (fit0 2) false false 0 3 0 [] none = some [1, 2] := by rfl

theorem L17_fR (g : Nat) : fR 2 1 2 (L17 g) [(98, 0), (97, 1), (-1, 2)] 0 false false = some [1, 2] := by
  unfold fR
  rw [if_pos (L17_ok g)]
  unfold findR
  rw [if_neg (by simp)]
  exact L17_find g
theorem pg17 {W : World} {s1 : Nat} (h1 : Blk W s1 66 #[.int .i32 97, .int .i32 97]) (h2 : Blk W (s1 + 1) 64 #[.int .i64 1, .int .i64 0, .int .i64 0, .slice none 0 0, .int .i64 0, .int .i64 2, .int .i64 0, .int .i64 0, .slice (some ⟨s1, 0, none⟩) 1 1, .int .i64 0]) : PgIn W (some ⟨s1 + 1, 0, none⟩) 2 2 (L17 s1) := by
  refine ⟨Rd.of_blk h2, rfl, Nat.le_refl _, by unfold maxLen; omega, (fun h => by cases h), fun x hx => ?_⟩
  simp only [L17, List.mem_cons, List.not_mem_nil, or_false] at hx
  rcases hx with rfl | rfl
  · exact rg_empty _
  · exact ⟨Rd.of_blk h1, rfl, Nat.le_refl _, (show (1 : Nat) ≤ maxLen by unfold maxLen; omega), (fun h => by cases h), by intro p hp; simp only [List.mem_cons, List.not_mem_nil, or_false] at hp; subst hp; decide⟩
set_option maxRecDepth 20000 in
set_option maxHeartbeats 4000000 in
theorem head17_any (w : World) : Calls Tryd.prog 7 #[] w fun e w' => e = .returned (.bool true) ∧ Below w.heap.size w w' := by
  have hn := new17_any w
  have kc := fun (w : World) (C : Array Value) (n c : Nat) => Lib.run_convert_bytes_const (P := Tryd.prog) w 29 5 C n c Tryd.underlying29 Tryd.underlying5
  go_enter Tryd.func7, Tryd.ntmps7
  go_wp2_with fail
  with_reducible refine hn.mono ?_
  rintro e w1 ⟨rfl, hma, hb1, hft, hsz⟩
  have HSZ := Lib.hid hsz
  clear hn hft hsz
  go_upto_region 3 with fail
  have q1 := Blk.new w1 66 #[.int .i32 97, .int .i32 97]
  have bb1 : Below w1.heap.size w1 (w1.alloc (.cells #[.int .i32 97, .int .i32 97] 66)) := (Below.refl _ _).alloc (Nat.le_refl _) _
  have z1 : (w1.alloc (.cells #[.int .i32 97, .int .i32 97] 66)).heap.size = w1.heap.size + 1 := by simp
  generalize w1.alloc (.cells #[.int .i32 97, .int .i32 97] 66) = w2 at q1 bb1 z1 ⊢
  have q2 := Blk.new w2 64 #[.int .i64 1, .int .i64 0, .int .i64 0, .slice none 0 0, .int .i64 0, .int .i64 2, .int .i64 0, .int .i64 0, .slice (some ⟨w1.heap.size, 0, none⟩) 1 1, .int .i64 0]
  have bb2 := bb1.alloc bb1.size (.cells #[.int .i64 1, .int .i64 0, .int .i64 0, .slice none 0 0, .int .i64 0, .int .i64 2, .int .i64 0, .int .i64 0, .slice (some ⟨w1.heap.size, 0, none⟩) 1 1, .int .i64 0] 64)
  have q1b := q1.alloc (.cells #[.int .i64 1, .int .i64 0, .int .i64 0, .slice none 0 0, .int .i64 0, .int .i64 2, .int .i64 0, .int .i64 0, .slice (some ⟨w1.heap.size, 0, none⟩) 1 1, .int .i64 0] 64)
  have z2 : (w2.alloc (.cells #[.int .i64 1, .int .i64 0, .int .i64 0, .slice none 0 0, .int .i64 0, .int .i64 2, .int .i64 0, .int .i64 0, .slice (some ⟨w1.heap.size, 0, none⟩) 1 1, .int .i64 0] 64)).heap.size = w1.heap.size + 1 + 1 := by simp [z1]
  rw [z1] at q2
  generalize w2.alloc (.cells #[.int .i64 1, .int .i64 0, .int .i64 0, .slice none 0 0, .int .i64 0, .int .i64 2, .int .i64 0, .int .i64 0, .slice (some ⟨w1.heap.size, 0, none⟩) 1 1, .int .i64 0] 64) = w3 at q2 bb2 q1b z2 ⊢
  have q3 := Blk.new w3 28 #[.slice (some ⟨w1.heap.size + 1, 0, none⟩) 2 2, .int .i64 1, .int .i64 2]
  have bb3 := bb2.alloc bb2.size (.cells #[.slice (some ⟨w1.heap.size + 1, 0, none⟩) 2 2, .int .i64 1, .int .i64 2] 28)
  have q1c := q1b.alloc (.cells #[.slice (some ⟨w1.heap.size + 1, 0, none⟩) 2 2, .int .i64 1, .int .i64 2] 28)
  have q2c := q2.alloc (.cells #[.slice (some ⟨w1.heap.size + 1, 0, none⟩) 2 2, .int .i64 1, .int .i64 2] 28)
  rw [z2] at q3
  generalize w3.alloc (.cells #[.slice (some ⟨w1.heap.size + 1, 0, none⟩) 2 2, .int .i64 1, .int .i64 2] 28) = w4 at q3 bb3 q1c q2c ⊢
  have bb4 := bb3.alloc bb3.size (.cells #[.int .u8 98, .int .u8 97] 5 (2, 3))
  have q1d := Lib.hid (q1c.alloc (.cells #[.int .u8 98, .int .u8 97] 5 (2, 3)))
  have q2d := Lib.hid (q2c.alloc (.cells #[.int .u8 98, .int .u8 97] 5 (2, 3)))
  have q3d := Lib.hid (q3.alloc (.cells #[.int .u8 98, .int .u8 97] 5 (2, 3)))
  have hR : Rd (w4.alloc (.cells #[.int .u8 98, .int .u8 97] 5 (2, 3))) 0 (w4.heap.size + 1) (some ⟨w4.heap.size, 0, none⟩) (byteVals baS.data.toList) := Rd.new w4 [.int .u8 98, .int .u8 97] 5 (2, 3) (Nat.zero_le _) (Nat.lt_succ_self _)
  have ht := text11_any (c := 2) hR (by simp) (n := 2) rfl (fun h => by cases h) (by unfold maxLen; omega)
  have HMA := Lib.hid hma
  have HB1 := Lib.hid hb1
  have HB4 := Lib.hid bb4
  clear q1 bb1 z1 q2 bb2 q1b z2 q3 bb3 q1c q2c hR hma hb1 bb4
  go_wp2_with fail
  with_reducible refine ht.mono ?_
  rintro e w6 (⟨_, gi, m, hm, rfl, hin, hb6⟩ | ⟨hbig, _⟩)
  case inr => exact absurd hbig (by decide)
  obtain rfl := hm.unique baCnt
  have hI := hin.1
  rw [ba_full] at hI
  clear ht kc hm hin
  have hb46 : Below w1.heap.size w1 w6 := HB4.out.trans (hb6.mono HB4.out.size)
  have hbm : Blk w6 w.heap.size 73 c0M := HMA.out.below hb46 HMA.out.lt
  have hq1 := q1d.out.below hb6 q1d.out.lt
  have hq2 := q2d.out.below hb6 q2d.out.lt
  have hq3 := q3d.out.below hb6 q3d.out.lt
  have hg1 : w.heap.size < w1.heap.size := by have := HSZ.out; omega
  have hP : PgK w6 w.heap.size (some ⟨w1.heap.size + 1, 0, none⟩) 2 2 (L17 w1.heap.size) := fun W hW => pg17 ((hW.block _ hq1.lt (by omega)).trans hq1) ((hW.block _ hq2.lt (by omega)).trans hq2)
  have hf := find_any (st := 1) (cp := 2) (ma_new hbm (Nat.le_refl _)) hP (fun x hx => by
    simp only [L17, List.mem_cons, List.not_mem_nil, or_false] at hx
    rcases hx with rfl | rfl <;> simp) (Bel.refl _ _ _) hI (Nat.le_refl _) (fun k h1 h2 h3 => by
      have h4 := ft_new h3
      have h5 := HB4.out.size
      omega) ⟨by decide, by decide⟩ 0 (by omega) false false
  rw [L17_fR] at hf
  have k0 := hq3.cell 0
  have k1 := hq3.cell 1
  have k2 := hq3.cell 2
  simp only [List.getElem?_toArray, List.getElem?_cons_zero, List.getElem?_cons_succ] at k0 k1 k2
  have HB6 := Lib.hid (HB1.out.trans (hb46.mono (by omega)))
  clear hI hb6 hb46 hbm hq1 hq2 hq3 hP q1d q2d q3d HMA HB4
  go_wp2_with fail
  with_reducible refine hf.mono ?_
  rintro e w7 ⟨v, E1, E2, rfl, hbi, hma7, hw7⟩
  obtain ⟨⟨bb, bo, cc, rfl, _, _, _, _, hc⟩, _⟩ := hbi
  have k3 := hc 0 1 rfl
  have k4 := hc 1 2 rfl
  rw [Nat.add_zero] at k3
  have HB7 : Hid (Below w.heap.size w w7) := Lib.hid (HB6.out.trans (hw7.1.below (fun q hq => by rw [ft_new hq]; exact Nat.le_refl _) HB6.out.size))
  clear hf hc hma7 hw7 k0 k1 k2
  simp only [List.length_cons, List.length_nil]
  go_wp2_with fail
  go_ret
  exact ⟨rfl, HB7.out⟩
end Go.Proofs.YtbhcgjahlfpjoaaDoor
