/- The reference's inst: the walk, way by way. -/
import Derived.Test.YtbhcgjahlfpjoaaDoorPg2
namespace Go.Proofs.YtbhcgjahlfpjoaaDoor
open Go.RowKit

set_option maxRecDepth 20000 in
set_option maxHeartbeats 1000000 in
theorem inst_1_0 {w : World} {A A' : Option Addr} {n c n' c' : Nat} {st cp out arg at' : Int} {set : List Rg} (hx : RgIn w A' n' c' set) (hn : n ≤ maxLen) (t0 : ¬ out = 0) :
    Calls Tryd.prog 31 #[.agg #[.slice A n c, .int .i64 st, .int .i64 cp], .agg #[.int .i64 1, .int .i64 out, .int .i64 arg, .slice A' n' c', .int .i64 at']] w (RightB n cp ⟨1, out, arg, A', n', c', at', set⟩ w) := by
  have hfin : ¬ InstOK n cp ⟨1, out, arg, A', n', c', at', set⟩ := by
    rintro (⟨h1, h2, h3, h4, h5⟩ | ⟨h1, h2, h3, h4, h5, h6, h7⟩ | ⟨h1, h2, h3, h4, h5, h6, h7⟩ | ⟨h1, h2, h3, h4, h5, h6, h7⟩ | ⟨h1, h2, h3, h4, h5, h6⟩)
    all_goals simp only at *
    all_goals omega
  have hb : Below w.heap.size w ((w.alloc (.cells #[.slice A n c, .int .i64 st, .int .i64 cp] 28)).alloc (.cells #[.int .i64 1, .int .i64 out, .int .i64 arg, .slice A' n' c', .int .i64 at'] 64)) := ((Below.refl _ _).alloc (Nat.le_refl _) _).alloc (by simp) _
  have hnm : (n : Int) ≤ 9223372036854775807 := by unfold maxLen at hn; omega
  have hnx : (n' : Int) ≤ 9223372036854775807 := by have h1 := hx.max; have h2 := hx.le; unfold maxLen at h1; omega
  have d0 : (out != 0) = true := by rw [bne_iff_ne]; omega
  have d0b : (out == 0) = false := beq_eq_false_iff_ne.2 (by omega)
  have HB := Lib.hid hb
  have HF := Lib.hid hfin
  clear hfin hx hb t0
  go_enter Tryd.func31, Tryd.ntmps31
  go_wp2_with fail
  go_ret
  exact rightB_mk ⟨fun h => (by cases h), fun h => absurd h HF.out⟩ HB.out
set_option maxRecDepth 20000 in
set_option maxHeartbeats 1000000 in
theorem inst_1_1 {w : World} {A A' : Option Addr} {n c n' c' : Nat} {st cp out arg at' : Int} {set : List Rg} (hx : RgIn w A' n' c' set) (hn : n ≤ maxLen) (t0 : out = 0) (t1 : ¬ arg = 0) :
    Calls Tryd.prog 31 #[.agg #[.slice A n c, .int .i64 st, .int .i64 cp], .agg #[.int .i64 1, .int .i64 out, .int .i64 arg, .slice A' n' c', .int .i64 at']] w (RightB n cp ⟨1, out, arg, A', n', c', at', set⟩ w) := by
  have hfin : ¬ InstOK n cp ⟨1, out, arg, A', n', c', at', set⟩ := by
    rintro (⟨h1, h2, h3, h4, h5⟩ | ⟨h1, h2, h3, h4, h5, h6, h7⟩ | ⟨h1, h2, h3, h4, h5, h6, h7⟩ | ⟨h1, h2, h3, h4, h5, h6, h7⟩ | ⟨h1, h2, h3, h4, h5, h6⟩)
    all_goals simp only at *
    all_goals omega
  have hb : Below w.heap.size w ((w.alloc (.cells #[.slice A n c, .int .i64 st, .int .i64 cp] 28)).alloc (.cells #[.int .i64 1, .int .i64 out, .int .i64 arg, .slice A' n' c', .int .i64 at'] 64)) := ((Below.refl _ _).alloc (Nat.le_refl _) _).alloc (by simp) _
  have hnm : (n : Int) ≤ 9223372036854775807 := by unfold maxLen at hn; omega
  have hnx : (n' : Int) ≤ 9223372036854775807 := by have h1 := hx.max; have h2 := hx.le; unfold maxLen at h1; omega
  have d0 : (out != 0) = false := by rw [bne_eq_false_iff_eq]; omega
  have d0b : (out == 0) = true := beq_iff_eq.2 (by omega)
  have d1 : (arg != 0) = true := by rw [bne_iff_ne]; omega
  have d1b : (arg == 0) = false := beq_eq_false_iff_ne.2 (by omega)
  have HB := Lib.hid hb
  have HF := Lib.hid hfin
  clear hfin hx hb t0 t1
  go_enter Tryd.func31, Tryd.ntmps31
  go_wp2_with fail
  go_ret
  exact rightB_mk ⟨fun h => (by cases h), fun h => absurd h HF.out⟩ HB.out
set_option maxRecDepth 20000 in
set_option maxHeartbeats 1000000 in
theorem inst_1_3 {w : World} {A A' : Option Addr} {n c n' c' : Nat} {st cp out arg at' : Int} {set : List Rg} (hx : RgIn w A' n' c' set) (hn : n ≤ maxLen) (t0 : out = 0) (t1 : arg = 0) (t3 : ¬ n' = 0) :
    Calls Tryd.prog 31 #[.agg #[.slice A n c, .int .i64 st, .int .i64 cp], .agg #[.int .i64 1, .int .i64 out, .int .i64 arg, .slice A' n' c', .int .i64 at']] w (RightB n cp ⟨1, out, arg, A', n', c', at', set⟩ w) := by
  have hfin : ¬ InstOK n cp ⟨1, out, arg, A', n', c', at', set⟩ := by
    rintro (⟨h1, h2, h3, h4, h5⟩ | ⟨h1, h2, h3, h4, h5, h6, h7⟩ | ⟨h1, h2, h3, h4, h5, h6, h7⟩ | ⟨h1, h2, h3, h4, h5, h6, h7⟩ | ⟨h1, h2, h3, h4, h5, h6⟩)
    all_goals simp only at *
    all_goals omega
  have hb : Below w.heap.size w ((w.alloc (.cells #[.slice A n c, .int .i64 st, .int .i64 cp] 28)).alloc (.cells #[.int .i64 1, .int .i64 out, .int .i64 arg, .slice A' n' c', .int .i64 at'] 64)) := ((Below.refl _ _).alloc (Nat.le_refl _) _).alloc (by simp) _
  have hnm : (n : Int) ≤ 9223372036854775807 := by unfold maxLen at hn; omega
  have hnx : (n' : Int) ≤ 9223372036854775807 := by have h1 := hx.max; have h2 := hx.le; unfold maxLen at h1; omega
  have d0 : (out != 0) = false := by rw [bne_eq_false_iff_eq]; omega
  have d0b : (out == 0) = true := beq_iff_eq.2 (by omega)
  have d1 : (arg != 0) = false := by rw [bne_eq_false_iff_eq]; omega
  have d1b : (arg == 0) = true := beq_iff_eq.2 (by omega)
  have d3 : decide (0 < n') = true := decide_eq_true (by omega)
  have d3b : decide ((0 : Int) < (n' : Int)) = true := decide_eq_true (by omega)
  have cR := refRight_any (RgIn.below hx hb)
  have hBx : Blk ((w.alloc (.cells #[.slice A n c, .int .i64 st, .int .i64 cp] 28)).alloc (.cells #[.int .i64 1, .int .i64 out, .int .i64 arg, .slice A' n' c', .int .i64 at'] 64)) (w.heap.size + 1) 64 #[.int .i64 1, .int .i64 out, .int .i64 arg, .slice A' n' c', .int .i64 at'] := by
    have := Blk.new (w.alloc (.cells #[.slice A n c, .int .i64 st, .int .i64 cp] 28)) 64 #[.int .i64 1, .int .i64 out, .int .i64 arg, .slice A' n' c', .int .i64 at']
    simpa using this
  have HBx := Lib.hid hBx
  clear hBx
  have HB := Lib.hid hb
  have HF := Lib.hid hfin
  clear hfin hx hb t0 t1 t3
  go_enter Tryd.func31, Tryd.ntmps31
  go_wp2_with (go_at_call 50; refine cR.mono ?_; rintro e w5 ⟨⟨b, rfl, hbR⟩, hb5⟩; have b5 := HBx.out.below hb5 HBx.out.lt; have e0 : w5.cell? ⟨w.heap.size + 1, 0, none⟩ = some (.int .i64 1) := b5.cell 0; have e3 : w5.cell? ⟨w.heap.size + 1, 3, none⟩ = some (.slice A' n' c') := b5.cell 3; have e4 : w5.cell? ⟨w.heap.size + 1, 4, none⟩ = some (.int .i64 at') := b5.cell 4; have HB5 := Lib.hid (HB.out.trans (hb5.mono HB.out.size)); clear cR hbR hb5 b5)
  go_ret
  exact rightB_mk ⟨fun h => (by cases h), fun h => absurd h HF.out⟩ HB5.out
set_option maxRecDepth 20000 in
set_option maxHeartbeats 1000000 in
theorem inst_1_4 {w : World} {A A' : Option Addr} {n c n' c' : Nat} {st cp out arg at' : Int} {set : List Rg} (hx : RgIn w A' n' c' set) (hn : n ≤ maxLen) (t0 : out = 0) (t1 : arg = 0) (t3 : n' = 0) (t4 : ¬ at' = 0) :
    Calls Tryd.prog 31 #[.agg #[.slice A n c, .int .i64 st, .int .i64 cp], .agg #[.int .i64 1, .int .i64 out, .int .i64 arg, .slice A' n' c', .int .i64 at']] w (RightB n cp ⟨1, out, arg, A', n', c', at', set⟩ w) := by
  have hfin : ¬ InstOK n cp ⟨1, out, arg, A', n', c', at', set⟩ := by
    rintro (⟨h1, h2, h3, h4, h5⟩ | ⟨h1, h2, h3, h4, h5, h6, h7⟩ | ⟨h1, h2, h3, h4, h5, h6, h7⟩ | ⟨h1, h2, h3, h4, h5, h6, h7⟩ | ⟨h1, h2, h3, h4, h5, h6⟩)
    all_goals simp only at *
    all_goals omega
  have hb : Below w.heap.size w ((w.alloc (.cells #[.slice A n c, .int .i64 st, .int .i64 cp] 28)).alloc (.cells #[.int .i64 1, .int .i64 out, .int .i64 arg, .slice A' n' c', .int .i64 at'] 64)) := ((Below.refl _ _).alloc (Nat.le_refl _) _).alloc (by simp) _
  have hnm : (n : Int) ≤ 9223372036854775807 := by unfold maxLen at hn; omega
  have hnx : (n' : Int) ≤ 9223372036854775807 := by have h1 := hx.max; have h2 := hx.le; unfold maxLen at h1; omega
  have d0 : (out != 0) = false := by rw [bne_eq_false_iff_eq]; omega
  have d0b : (out == 0) = true := beq_iff_eq.2 (by omega)
  have d1 : (arg != 0) = false := by rw [bne_eq_false_iff_eq]; omega
  have d1b : (arg == 0) = true := beq_iff_eq.2 (by omega)
  have d3 : decide (0 < n') = false := decide_eq_false (by omega)
  have d3b : decide ((0 : Int) < (n' : Int)) = false := decide_eq_false (by omega)
  have d4 : (at' == 0) = false := beq_eq_false_iff_ne.2 (by omega)
  have d4b : (at' != 0) = true := by rw [bne_iff_ne]; omega
  have cR := refRight_any (RgIn.below hx hb)
  have hBx : Blk ((w.alloc (.cells #[.slice A n c, .int .i64 st, .int .i64 cp] 28)).alloc (.cells #[.int .i64 1, .int .i64 out, .int .i64 arg, .slice A' n' c', .int .i64 at'] 64)) (w.heap.size + 1) 64 #[.int .i64 1, .int .i64 out, .int .i64 arg, .slice A' n' c', .int .i64 at'] := by
    have := Blk.new (w.alloc (.cells #[.slice A n c, .int .i64 st, .int .i64 cp] 28)) 64 #[.int .i64 1, .int .i64 out, .int .i64 arg, .slice A' n' c', .int .i64 at']
    simpa using this
  have HBx := Lib.hid hBx
  clear hBx
  have HB := Lib.hid hb
  have HF := Lib.hid hfin
  clear hfin hx hb t0 t1 t3 t4
  go_enter Tryd.func31, Tryd.ntmps31
  go_wp2_with (go_at_call 50; refine cR.mono ?_; rintro e w5 ⟨⟨b, rfl, hbR⟩, hb5⟩; have b5 := HBx.out.below hb5 HBx.out.lt; have e0 : w5.cell? ⟨w.heap.size + 1, 0, none⟩ = some (.int .i64 1) := b5.cell 0; have e3 : w5.cell? ⟨w.heap.size + 1, 3, none⟩ = some (.slice A' n' c') := b5.cell 3; have e4 : w5.cell? ⟨w.heap.size + 1, 4, none⟩ = some (.int .i64 at') := b5.cell 4; have HB5 := Lib.hid (HB.out.trans (hb5.mono HB.out.size)); clear cR hbR hb5 b5)
  go_ret
  exact rightB_mk ⟨fun h => (by cases h), fun h => absurd h HF.out⟩ HB5.out
set_option maxRecDepth 20000 in
set_option maxHeartbeats 1000000 in
theorem inst_1_5 {w : World} {A A' : Option Addr} {n c n' c' : Nat} {st cp out arg at' : Int} {set : List Rg} (hx : RgIn w A' n' c' set) (hn : n ≤ maxLen) (t0 : out = 0) (t1 : arg = 0) (t3 : n' = 0) (t4 : at' = 0) :
    Calls Tryd.prog 31 #[.agg #[.slice A n c, .int .i64 st, .int .i64 cp], .agg #[.int .i64 1, .int .i64 out, .int .i64 arg, .slice A' n' c', .int .i64 at']] w (RightB n cp ⟨1, out, arg, A', n', c', at', set⟩ w) := by
  have hfin : InstOK n cp ⟨1, out, arg, A', n', c', at', set⟩ := .inl ⟨.inl rfl, t0, t1, t3, t4⟩
  have hb : Below w.heap.size w ((w.alloc (.cells #[.slice A n c, .int .i64 st, .int .i64 cp] 28)).alloc (.cells #[.int .i64 1, .int .i64 out, .int .i64 arg, .slice A' n' c', .int .i64 at'] 64)) := ((Below.refl _ _).alloc (Nat.le_refl _) _).alloc (by simp) _
  have hnm : (n : Int) ≤ 9223372036854775807 := by unfold maxLen at hn; omega
  have hnx : (n' : Int) ≤ 9223372036854775807 := by have h1 := hx.max; have h2 := hx.le; unfold maxLen at h1; omega
  have d0 : (out != 0) = false := by rw [bne_eq_false_iff_eq]; omega
  have d0b : (out == 0) = true := beq_iff_eq.2 (by omega)
  have d1 : (arg != 0) = false := by rw [bne_eq_false_iff_eq]; omega
  have d1b : (arg == 0) = true := beq_iff_eq.2 (by omega)
  have d3 : decide (0 < n') = false := decide_eq_false (by omega)
  have d3b : decide ((0 : Int) < (n' : Int)) = false := decide_eq_false (by omega)
  have d4 : (at' == 0) = true := beq_iff_eq.2 (by omega)
  have d4b : (at' != 0) = false := by rw [bne_eq_false_iff_eq]; omega
  have cR := refRight_any (RgIn.below hx hb)
  have hBx : Blk ((w.alloc (.cells #[.slice A n c, .int .i64 st, .int .i64 cp] 28)).alloc (.cells #[.int .i64 1, .int .i64 out, .int .i64 arg, .slice A' n' c', .int .i64 at'] 64)) (w.heap.size + 1) 64 #[.int .i64 1, .int .i64 out, .int .i64 arg, .slice A' n' c', .int .i64 at'] := by
    have := Blk.new (w.alloc (.cells #[.slice A n c, .int .i64 st, .int .i64 cp] 28)) 64 #[.int .i64 1, .int .i64 out, .int .i64 arg, .slice A' n' c', .int .i64 at']
    simpa using this
  have HBx := Lib.hid hBx
  clear hBx
  have HB := Lib.hid hb
  have HF := Lib.hid hfin
  clear hfin hx hb t0 t1 t3 t4
  go_enter Tryd.func31, Tryd.ntmps31
  go_wp2_with (go_at_call 50; refine cR.mono ?_; rintro e w5 ⟨⟨b, rfl, hbR⟩, hb5⟩; have b5 := HBx.out.below hb5 HBx.out.lt; have e0 : w5.cell? ⟨w.heap.size + 1, 0, none⟩ = some (.int .i64 1) := b5.cell 0; have e3 : w5.cell? ⟨w.heap.size + 1, 3, none⟩ = some (.slice A' n' c') := b5.cell 3; have e4 : w5.cell? ⟨w.heap.size + 1, 4, none⟩ = some (.int .i64 at') := b5.cell 4; have HB5 := Lib.hid (HB.out.trans (hb5.mono HB.out.size)); clear cR hbR hb5 b5)
  go_ret
  exact rightB_mk ⟨fun _ => HF.out, fun _ => rfl⟩ HB5.out
set_option maxRecDepth 20000 in
set_option maxHeartbeats 1000000 in
theorem inst_6_0 {w : World} {A A' : Option Addr} {n c n' c' : Nat} {st cp out arg at' : Int} {set : List Rg} (hx : RgIn w A' n' c' set) (hn : n ≤ maxLen) (t0 : ¬ out = 0) :
    Calls Tryd.prog 31 #[.agg #[.slice A n c, .int .i64 st, .int .i64 cp], .agg #[.int .i64 6, .int .i64 out, .int .i64 arg, .slice A' n' c', .int .i64 at']] w (RightB n cp ⟨6, out, arg, A', n', c', at', set⟩ w) := by
  have hfin : ¬ InstOK n cp ⟨6, out, arg, A', n', c', at', set⟩ := by
    rintro (⟨h1, h2, h3, h4, h5⟩ | ⟨h1, h2, h3, h4, h5, h6, h7⟩ | ⟨h1, h2, h3, h4, h5, h6, h7⟩ | ⟨h1, h2, h3, h4, h5, h6, h7⟩ | ⟨h1, h2, h3, h4, h5, h6⟩)
    all_goals simp only at *
    all_goals omega
  have hb : Below w.heap.size w ((w.alloc (.cells #[.slice A n c, .int .i64 st, .int .i64 cp] 28)).alloc (.cells #[.int .i64 6, .int .i64 out, .int .i64 arg, .slice A' n' c', .int .i64 at'] 64)) := ((Below.refl _ _).alloc (Nat.le_refl _) _).alloc (by simp) _
  have hnm : (n : Int) ≤ 9223372036854775807 := by unfold maxLen at hn; omega
  have hnx : (n' : Int) ≤ 9223372036854775807 := by have h1 := hx.max; have h2 := hx.le; unfold maxLen at h1; omega
  have d0 : (out != 0) = true := by rw [bne_iff_ne]; omega
  have d0b : (out == 0) = false := beq_eq_false_iff_ne.2 (by omega)
  have HB := Lib.hid hb
  have HF := Lib.hid hfin
  clear hfin hx hb t0
  go_enter Tryd.func31, Tryd.ntmps31
  go_wp2_with fail
  go_ret
  exact rightB_mk ⟨fun h => (by cases h), fun h => absurd h HF.out⟩ HB.out
set_option maxRecDepth 20000 in
set_option maxHeartbeats 1000000 in
theorem inst_6_1 {w : World} {A A' : Option Addr} {n c n' c' : Nat} {st cp out arg at' : Int} {set : List Rg} (hx : RgIn w A' n' c' set) (hn : n ≤ maxLen) (t0 : out = 0) (t1 : ¬ arg = 0) :
    Calls Tryd.prog 31 #[.agg #[.slice A n c, .int .i64 st, .int .i64 cp], .agg #[.int .i64 6, .int .i64 out, .int .i64 arg, .slice A' n' c', .int .i64 at']] w (RightB n cp ⟨6, out, arg, A', n', c', at', set⟩ w) := by
  have hfin : ¬ InstOK n cp ⟨6, out, arg, A', n', c', at', set⟩ := by
    rintro (⟨h1, h2, h3, h4, h5⟩ | ⟨h1, h2, h3, h4, h5, h6, h7⟩ | ⟨h1, h2, h3, h4, h5, h6, h7⟩ | ⟨h1, h2, h3, h4, h5, h6, h7⟩ | ⟨h1, h2, h3, h4, h5, h6⟩)
    all_goals simp only at *
    all_goals omega
  have hb : Below w.heap.size w ((w.alloc (.cells #[.slice A n c, .int .i64 st, .int .i64 cp] 28)).alloc (.cells #[.int .i64 6, .int .i64 out, .int .i64 arg, .slice A' n' c', .int .i64 at'] 64)) := ((Below.refl _ _).alloc (Nat.le_refl _) _).alloc (by simp) _
  have hnm : (n : Int) ≤ 9223372036854775807 := by unfold maxLen at hn; omega
  have hnx : (n' : Int) ≤ 9223372036854775807 := by have h1 := hx.max; have h2 := hx.le; unfold maxLen at h1; omega
  have d0 : (out != 0) = false := by rw [bne_eq_false_iff_eq]; omega
  have d0b : (out == 0) = true := beq_iff_eq.2 (by omega)
  have d1 : (arg != 0) = true := by rw [bne_iff_ne]; omega
  have d1b : (arg == 0) = false := beq_eq_false_iff_ne.2 (by omega)
  have HB := Lib.hid hb
  have HF := Lib.hid hfin
  clear hfin hx hb t0 t1
  go_enter Tryd.func31, Tryd.ntmps31
  go_wp2_with fail
  go_ret
  exact rightB_mk ⟨fun h => (by cases h), fun h => absurd h HF.out⟩ HB.out
set_option maxRecDepth 20000 in
set_option maxHeartbeats 1000000 in
theorem inst_6_3 {w : World} {A A' : Option Addr} {n c n' c' : Nat} {st cp out arg at' : Int} {set : List Rg} (hx : RgIn w A' n' c' set) (hn : n ≤ maxLen) (t0 : out = 0) (t1 : arg = 0) (t3 : ¬ n' = 0) :
    Calls Tryd.prog 31 #[.agg #[.slice A n c, .int .i64 st, .int .i64 cp], .agg #[.int .i64 6, .int .i64 out, .int .i64 arg, .slice A' n' c', .int .i64 at']] w (RightB n cp ⟨6, out, arg, A', n', c', at', set⟩ w) := by
  have hfin : ¬ InstOK n cp ⟨6, out, arg, A', n', c', at', set⟩ := by
    rintro (⟨h1, h2, h3, h4, h5⟩ | ⟨h1, h2, h3, h4, h5, h6, h7⟩ | ⟨h1, h2, h3, h4, h5, h6, h7⟩ | ⟨h1, h2, h3, h4, h5, h6, h7⟩ | ⟨h1, h2, h3, h4, h5, h6⟩)
    all_goals simp only at *
    all_goals omega
  have hb : Below w.heap.size w ((w.alloc (.cells #[.slice A n c, .int .i64 st, .int .i64 cp] 28)).alloc (.cells #[.int .i64 6, .int .i64 out, .int .i64 arg, .slice A' n' c', .int .i64 at'] 64)) := ((Below.refl _ _).alloc (Nat.le_refl _) _).alloc (by simp) _
  have hnm : (n : Int) ≤ 9223372036854775807 := by unfold maxLen at hn; omega
  have hnx : (n' : Int) ≤ 9223372036854775807 := by have h1 := hx.max; have h2 := hx.le; unfold maxLen at h1; omega
  have d0 : (out != 0) = false := by rw [bne_eq_false_iff_eq]; omega
  have d0b : (out == 0) = true := beq_iff_eq.2 (by omega)
  have d1 : (arg != 0) = false := by rw [bne_eq_false_iff_eq]; omega
  have d1b : (arg == 0) = true := beq_iff_eq.2 (by omega)
  have d3 : decide (0 < n') = true := decide_eq_true (by omega)
  have d3b : decide ((0 : Int) < (n' : Int)) = true := decide_eq_true (by omega)
  have cR := refRight_any (RgIn.below hx hb)
  have hBx : Blk ((w.alloc (.cells #[.slice A n c, .int .i64 st, .int .i64 cp] 28)).alloc (.cells #[.int .i64 6, .int .i64 out, .int .i64 arg, .slice A' n' c', .int .i64 at'] 64)) (w.heap.size + 1) 64 #[.int .i64 6, .int .i64 out, .int .i64 arg, .slice A' n' c', .int .i64 at'] := by
    have := Blk.new (w.alloc (.cells #[.slice A n c, .int .i64 st, .int .i64 cp] 28)) 64 #[.int .i64 6, .int .i64 out, .int .i64 arg, .slice A' n' c', .int .i64 at']
    simpa using this
  have HBx := Lib.hid hBx
  clear hBx
  have HB := Lib.hid hb
  have HF := Lib.hid hfin
  clear hfin hx hb t0 t1 t3
  go_enter Tryd.func31, Tryd.ntmps31
  go_wp2_with (go_at_call 50; refine cR.mono ?_; rintro e w5 ⟨⟨b, rfl, hbR⟩, hb5⟩; have b5 := HBx.out.below hb5 HBx.out.lt; have e0 : w5.cell? ⟨w.heap.size + 1, 0, none⟩ = some (.int .i64 6) := b5.cell 0; have e3 : w5.cell? ⟨w.heap.size + 1, 3, none⟩ = some (.slice A' n' c') := b5.cell 3; have e4 : w5.cell? ⟨w.heap.size + 1, 4, none⟩ = some (.int .i64 at') := b5.cell 4; have HB5 := Lib.hid (HB.out.trans (hb5.mono HB.out.size)); clear cR hbR hb5 b5)
  go_ret
  exact rightB_mk ⟨fun h => (by cases h), fun h => absurd h HF.out⟩ HB5.out
set_option maxRecDepth 20000 in
set_option maxHeartbeats 1000000 in
theorem inst_6_4 {w : World} {A A' : Option Addr} {n c n' c' : Nat} {st cp out arg at' : Int} {set : List Rg} (hx : RgIn w A' n' c' set) (hn : n ≤ maxLen) (t0 : out = 0) (t1 : arg = 0) (t3 : n' = 0) (t4 : ¬ at' = 0) :
    Calls Tryd.prog 31 #[.agg #[.slice A n c, .int .i64 st, .int .i64 cp], .agg #[.int .i64 6, .int .i64 out, .int .i64 arg, .slice A' n' c', .int .i64 at']] w (RightB n cp ⟨6, out, arg, A', n', c', at', set⟩ w) := by
  have hfin : ¬ InstOK n cp ⟨6, out, arg, A', n', c', at', set⟩ := by
    rintro (⟨h1, h2, h3, h4, h5⟩ | ⟨h1, h2, h3, h4, h5, h6, h7⟩ | ⟨h1, h2, h3, h4, h5, h6, h7⟩ | ⟨h1, h2, h3, h4, h5, h6, h7⟩ | ⟨h1, h2, h3, h4, h5, h6⟩)
    all_goals simp only at *
    all_goals omega
  have hb : Below w.heap.size w ((w.alloc (.cells #[.slice A n c, .int .i64 st, .int .i64 cp] 28)).alloc (.cells #[.int .i64 6, .int .i64 out, .int .i64 arg, .slice A' n' c', .int .i64 at'] 64)) := ((Below.refl _ _).alloc (Nat.le_refl _) _).alloc (by simp) _
  have hnm : (n : Int) ≤ 9223372036854775807 := by unfold maxLen at hn; omega
  have hnx : (n' : Int) ≤ 9223372036854775807 := by have h1 := hx.max; have h2 := hx.le; unfold maxLen at h1; omega
  have d0 : (out != 0) = false := by rw [bne_eq_false_iff_eq]; omega
  have d0b : (out == 0) = true := beq_iff_eq.2 (by omega)
  have d1 : (arg != 0) = false := by rw [bne_eq_false_iff_eq]; omega
  have d1b : (arg == 0) = true := beq_iff_eq.2 (by omega)
  have d3 : decide (0 < n') = false := decide_eq_false (by omega)
  have d3b : decide ((0 : Int) < (n' : Int)) = false := decide_eq_false (by omega)
  have d4 : (at' == 0) = false := beq_eq_false_iff_ne.2 (by omega)
  have d4b : (at' != 0) = true := by rw [bne_iff_ne]; omega
  have cR := refRight_any (RgIn.below hx hb)
  have hBx : Blk ((w.alloc (.cells #[.slice A n c, .int .i64 st, .int .i64 cp] 28)).alloc (.cells #[.int .i64 6, .int .i64 out, .int .i64 arg, .slice A' n' c', .int .i64 at'] 64)) (w.heap.size + 1) 64 #[.int .i64 6, .int .i64 out, .int .i64 arg, .slice A' n' c', .int .i64 at'] := by
    have := Blk.new (w.alloc (.cells #[.slice A n c, .int .i64 st, .int .i64 cp] 28)) 64 #[.int .i64 6, .int .i64 out, .int .i64 arg, .slice A' n' c', .int .i64 at']
    simpa using this
  have HBx := Lib.hid hBx
  clear hBx
  have HB := Lib.hid hb
  have HF := Lib.hid hfin
  clear hfin hx hb t0 t1 t3 t4
  go_enter Tryd.func31, Tryd.ntmps31
  go_wp2_with (go_at_call 50; refine cR.mono ?_; rintro e w5 ⟨⟨b, rfl, hbR⟩, hb5⟩; have b5 := HBx.out.below hb5 HBx.out.lt; have e0 : w5.cell? ⟨w.heap.size + 1, 0, none⟩ = some (.int .i64 6) := b5.cell 0; have e3 : w5.cell? ⟨w.heap.size + 1, 3, none⟩ = some (.slice A' n' c') := b5.cell 3; have e4 : w5.cell? ⟨w.heap.size + 1, 4, none⟩ = some (.int .i64 at') := b5.cell 4; have HB5 := Lib.hid (HB.out.trans (hb5.mono HB.out.size)); clear cR hbR hb5 b5)
  go_ret
  exact rightB_mk ⟨fun h => (by cases h), fun h => absurd h HF.out⟩ HB5.out
set_option maxRecDepth 20000 in
set_option maxHeartbeats 1000000 in
theorem inst_6_5 {w : World} {A A' : Option Addr} {n c n' c' : Nat} {st cp out arg at' : Int} {set : List Rg} (hx : RgIn w A' n' c' set) (hn : n ≤ maxLen) (t0 : out = 0) (t1 : arg = 0) (t3 : n' = 0) (t4 : at' = 0) :
    Calls Tryd.prog 31 #[.agg #[.slice A n c, .int .i64 st, .int .i64 cp], .agg #[.int .i64 6, .int .i64 out, .int .i64 arg, .slice A' n' c', .int .i64 at']] w (RightB n cp ⟨6, out, arg, A', n', c', at', set⟩ w) := by
  have hfin : InstOK n cp ⟨6, out, arg, A', n', c', at', set⟩ := .inl ⟨.inr rfl, t0, t1, t3, t4⟩
  have hb : Below w.heap.size w ((w.alloc (.cells #[.slice A n c, .int .i64 st, .int .i64 cp] 28)).alloc (.cells #[.int .i64 6, .int .i64 out, .int .i64 arg, .slice A' n' c', .int .i64 at'] 64)) := ((Below.refl _ _).alloc (Nat.le_refl _) _).alloc (by simp) _
  have hnm : (n : Int) ≤ 9223372036854775807 := by unfold maxLen at hn; omega
  have hnx : (n' : Int) ≤ 9223372036854775807 := by have h1 := hx.max; have h2 := hx.le; unfold maxLen at h1; omega
  have d0 : (out != 0) = false := by rw [bne_eq_false_iff_eq]; omega
  have d0b : (out == 0) = true := beq_iff_eq.2 (by omega)
  have d1 : (arg != 0) = false := by rw [bne_eq_false_iff_eq]; omega
  have d1b : (arg == 0) = true := beq_iff_eq.2 (by omega)
  have d3 : decide (0 < n') = false := decide_eq_false (by omega)
  have d3b : decide ((0 : Int) < (n' : Int)) = false := decide_eq_false (by omega)
  have d4 : (at' == 0) = true := beq_iff_eq.2 (by omega)
  have d4b : (at' != 0) = false := by rw [bne_eq_false_iff_eq]; omega
  have cR := refRight_any (RgIn.below hx hb)
  have hBx : Blk ((w.alloc (.cells #[.slice A n c, .int .i64 st, .int .i64 cp] 28)).alloc (.cells #[.int .i64 6, .int .i64 out, .int .i64 arg, .slice A' n' c', .int .i64 at'] 64)) (w.heap.size + 1) 64 #[.int .i64 6, .int .i64 out, .int .i64 arg, .slice A' n' c', .int .i64 at'] := by
    have := Blk.new (w.alloc (.cells #[.slice A n c, .int .i64 st, .int .i64 cp] 28)) 64 #[.int .i64 6, .int .i64 out, .int .i64 arg, .slice A' n' c', .int .i64 at']
    simpa using this
  have HBx := Lib.hid hBx
  clear hBx
  have HB := Lib.hid hb
  have HF := Lib.hid hfin
  clear hfin hx hb t0 t1 t3 t4
  go_enter Tryd.func31, Tryd.ntmps31
  go_wp2_with (go_at_call 50; refine cR.mono ?_; rintro e w5 ⟨⟨b, rfl, hbR⟩, hb5⟩; have b5 := HBx.out.below hb5 HBx.out.lt; have e0 : w5.cell? ⟨w.heap.size + 1, 0, none⟩ = some (.int .i64 6) := b5.cell 0; have e3 : w5.cell? ⟨w.heap.size + 1, 3, none⟩ = some (.slice A' n' c') := b5.cell 3; have e4 : w5.cell? ⟨w.heap.size + 1, 4, none⟩ = some (.int .i64 at') := b5.cell 4; have HB5 := Lib.hid (HB.out.trans (hb5.mono HB.out.size)); clear cR hbR hb5 b5)
  go_ret
  exact rightB_mk ⟨fun _ => HF.out, fun _ => rfl⟩ HB5.out
set_option maxRecDepth 20000 in
set_option maxHeartbeats 1000000 in
theorem inst_2_0 {w : World} {A A' : Option Addr} {n c n' c' : Nat} {st cp out arg at' : Int} {set : List Rg} (hx : RgIn w A' n' c' set) (hn : n ≤ maxLen) (t0 : ¬ 0 ≤ out) :
    Calls Tryd.prog 31 #[.agg #[.slice A n c, .int .i64 st, .int .i64 cp], .agg #[.int .i64 2, .int .i64 out, .int .i64 arg, .slice A' n' c', .int .i64 at']] w (RightB n cp ⟨2, out, arg, A', n', c', at', set⟩ w) := by
  have hfin : ¬ InstOK n cp ⟨2, out, arg, A', n', c', at', set⟩ := by
    rintro (⟨h1, h2, h3, h4, h5⟩ | ⟨h1, h2, h3, h4, h5, h6, h7⟩ | ⟨h1, h2, h3, h4, h5, h6, h7⟩ | ⟨h1, h2, h3, h4, h5, h6, h7⟩ | ⟨h1, h2, h3, h4, h5, h6⟩)
    all_goals simp only at *
    all_goals omega
  have hb : Below w.heap.size w ((w.alloc (.cells #[.slice A n c, .int .i64 st, .int .i64 cp] 28)).alloc (.cells #[.int .i64 2, .int .i64 out, .int .i64 arg, .slice A' n' c', .int .i64 at'] 64)) := ((Below.refl _ _).alloc (Nat.le_refl _) _).alloc (by simp) _
  have hnm : (n : Int) ≤ 9223372036854775807 := by unfold maxLen at hn; omega
  have hnx : (n' : Int) ≤ 9223372036854775807 := by have h1 := hx.max; have h2 := hx.le; unfold maxLen at h1; omega
  have d0 : decide (out < 0) = true := decide_eq_true (by omega)
  have HB := Lib.hid hb
  have HF := Lib.hid hfin
  clear hfin hx hb t0
  go_enter Tryd.func31, Tryd.ntmps31
  go_wp2_with fail
  go_ret
  exact rightB_mk ⟨fun h => (by cases h), fun h => absurd h HF.out⟩ HB.out
set_option maxRecDepth 20000 in
set_option maxHeartbeats 1000000 in
theorem inst_2_1 {w : World} {A A' : Option Addr} {n c n' c' : Nat} {st cp out arg at' : Int} {set : List Rg} (hx : RgIn w A' n' c' set) (hn : n ≤ maxLen) (t0 : 0 ≤ out) (t1 : ¬ out < (n : Int)) :
    Calls Tryd.prog 31 #[.agg #[.slice A n c, .int .i64 st, .int .i64 cp], .agg #[.int .i64 2, .int .i64 out, .int .i64 arg, .slice A' n' c', .int .i64 at']] w (RightB n cp ⟨2, out, arg, A', n', c', at', set⟩ w) := by
  have hfin : ¬ InstOK n cp ⟨2, out, arg, A', n', c', at', set⟩ := by
    rintro (⟨h1, h2, h3, h4, h5⟩ | ⟨h1, h2, h3, h4, h5, h6, h7⟩ | ⟨h1, h2, h3, h4, h5, h6, h7⟩ | ⟨h1, h2, h3, h4, h5, h6, h7⟩ | ⟨h1, h2, h3, h4, h5, h6⟩)
    all_goals simp only at *
    all_goals omega
  have hb : Below w.heap.size w ((w.alloc (.cells #[.slice A n c, .int .i64 st, .int .i64 cp] 28)).alloc (.cells #[.int .i64 2, .int .i64 out, .int .i64 arg, .slice A' n' c', .int .i64 at'] 64)) := ((Below.refl _ _).alloc (Nat.le_refl _) _).alloc (by simp) _
  have hnm : (n : Int) ≤ 9223372036854775807 := by unfold maxLen at hn; omega
  have hnx : (n' : Int) ≤ 9223372036854775807 := by have h1 := hx.max; have h2 := hx.le; unfold maxLen at h1; omega
  have d0 : decide (out < 0) = false := decide_eq_false (by omega)
  have d1 : decide ((n : Int) ≤ out) = true := decide_eq_true (by omega)
  have HB := Lib.hid hb
  have HF := Lib.hid hfin
  clear hfin hx hb t0 t1
  go_enter Tryd.func31, Tryd.ntmps31
  go_wp2_with fail
  go_ret
  exact rightB_mk ⟨fun h => (by cases h), fun h => absurd h HF.out⟩ HB.out
set_option maxRecDepth 20000 in
set_option maxHeartbeats 1000000 in
theorem inst_2_2 {w : World} {A A' : Option Addr} {n c n' c' : Nat} {st cp out arg at' : Int} {set : List Rg} (hx : RgIn w A' n' c' set) (hn : n ≤ maxLen) (t0 : 0 ≤ out) (t1 : out < (n : Int)) (t2 : ¬ arg = 0) :
    Calls Tryd.prog 31 #[.agg #[.slice A n c, .int .i64 st, .int .i64 cp], .agg #[.int .i64 2, .int .i64 out, .int .i64 arg, .slice A' n' c', .int .i64 at']] w (RightB n cp ⟨2, out, arg, A', n', c', at', set⟩ w) := by
  have hfin : ¬ InstOK n cp ⟨2, out, arg, A', n', c', at', set⟩ := by
    rintro (⟨h1, h2, h3, h4, h5⟩ | ⟨h1, h2, h3, h4, h5, h6, h7⟩ | ⟨h1, h2, h3, h4, h5, h6, h7⟩ | ⟨h1, h2, h3, h4, h5, h6, h7⟩ | ⟨h1, h2, h3, h4, h5, h6⟩)
    all_goals simp only at *
    all_goals omega
  have hb : Below w.heap.size w ((w.alloc (.cells #[.slice A n c, .int .i64 st, .int .i64 cp] 28)).alloc (.cells #[.int .i64 2, .int .i64 out, .int .i64 arg, .slice A' n' c', .int .i64 at'] 64)) := ((Below.refl _ _).alloc (Nat.le_refl _) _).alloc (by simp) _
  have hnm : (n : Int) ≤ 9223372036854775807 := by unfold maxLen at hn; omega
  have hnx : (n' : Int) ≤ 9223372036854775807 := by have h1 := hx.max; have h2 := hx.le; unfold maxLen at h1; omega
  have d0 : decide (out < 0) = false := decide_eq_false (by omega)
  have d1 : decide ((n : Int) ≤ out) = false := decide_eq_false (by omega)
  have d2 : (arg != 0) = true := by rw [bne_iff_ne]; omega
  have d2b : (arg == 0) = false := beq_eq_false_iff_ne.2 (by omega)
  have HB := Lib.hid hb
  have HF := Lib.hid hfin
  clear hfin hx hb t0 t1 t2
  go_enter Tryd.func31, Tryd.ntmps31
  go_wp2_with fail
  go_ret
  exact rightB_mk ⟨fun h => (by cases h), fun h => absurd h HF.out⟩ HB.out
set_option maxRecDepth 20000 in
set_option maxHeartbeats 1000000 in
theorem inst_2_3 {w : World} {A A' : Option Addr} {n c n' c' : Nat} {st cp out arg at' : Int} {set : List Rg} (hx : RgIn w A' n' c' set) (hn : n ≤ maxLen) (t0 : 0 ≤ out) (t1 : out < (n : Int)) (t2 : arg = 0) (t3 : ¬ Canon set) :
    Calls Tryd.prog 31 #[.agg #[.slice A n c, .int .i64 st, .int .i64 cp], .agg #[.int .i64 2, .int .i64 out, .int .i64 arg, .slice A' n' c', .int .i64 at']] w (RightB n cp ⟨2, out, arg, A', n', c', at', set⟩ w) := by
  have hfin : ¬ InstOK n cp ⟨2, out, arg, A', n', c', at', set⟩ := by
    rintro (⟨h1, h2, h3, h4, h5⟩ | ⟨h1, h2, h3, h4, h5, h6, h7⟩ | ⟨h1, h2, h3, h4, h5, h6, h7⟩ | ⟨h1, h2, h3, h4, h5, h6, h7⟩ | ⟨h1, h2, h3, h4, h5, h6⟩)
    all_goals simp only at *
    all_goals first | omega | exact t3 h6
  have hb : Below w.heap.size w ((w.alloc (.cells #[.slice A n c, .int .i64 st, .int .i64 cp] 28)).alloc (.cells #[.int .i64 2, .int .i64 out, .int .i64 arg, .slice A' n' c', .int .i64 at'] 64)) := ((Below.refl _ _).alloc (Nat.le_refl _) _).alloc (by simp) _
  have hnm : (n : Int) ≤ 9223372036854775807 := by unfold maxLen at hn; omega
  have hnx : (n' : Int) ≤ 9223372036854775807 := by have h1 := hx.max; have h2 := hx.le; unfold maxLen at h1; omega
  have d0 : decide (out < 0) = false := decide_eq_false (by omega)
  have d1 : decide ((n : Int) ≤ out) = false := decide_eq_false (by omega)
  have d2 : (arg != 0) = false := by rw [bne_eq_false_iff_eq]; omega
  have d2b : (arg == 0) = true := beq_iff_eq.2 (by omega)
  have cR := refRight_any (RgIn.below hx hb)
  have hBx : Blk ((w.alloc (.cells #[.slice A n c, .int .i64 st, .int .i64 cp] 28)).alloc (.cells #[.int .i64 2, .int .i64 out, .int .i64 arg, .slice A' n' c', .int .i64 at'] 64)) (w.heap.size + 1) 64 #[.int .i64 2, .int .i64 out, .int .i64 arg, .slice A' n' c', .int .i64 at'] := by
    have := Blk.new (w.alloc (.cells #[.slice A n c, .int .i64 st, .int .i64 cp] 28)) 64 #[.int .i64 2, .int .i64 out, .int .i64 arg, .slice A' n' c', .int .i64 at']
    simpa using this
  have HBx := Lib.hid hBx
  clear hBx
  have HB := Lib.hid hb
  have HF := Lib.hid hfin
  clear hfin hx hb t0 t1 t2
  go_enter Tryd.func31, Tryd.ntmps31
  go_wp2_with (go_at_call 50; refine cR.mono ?_; rintro e w5 ⟨⟨b, rfl, hbR⟩, hb5⟩; obtain rfl : b = false := Bool.eq_false_iff.2 (fun h => t3 (hbR.1 h)); have b5 := HBx.out.below hb5 HBx.out.lt; have e0 : w5.cell? ⟨w.heap.size + 1, 0, none⟩ = some (.int .i64 2) := b5.cell 0; have e3 : w5.cell? ⟨w.heap.size + 1, 3, none⟩ = some (.slice A' n' c') := b5.cell 3; have e4 : w5.cell? ⟨w.heap.size + 1, 4, none⟩ = some (.int .i64 at') := b5.cell 4; have HB5 := Lib.hid (HB.out.trans (hb5.mono HB.out.size)); clear cR hbR hb5 b5)
  go_ret
  exact rightB_mk ⟨fun h => (by cases h), fun h => absurd h HF.out⟩ HB5.out
set_option maxRecDepth 20000 in
set_option maxHeartbeats 1000000 in
theorem inst_2_4 {w : World} {A A' : Option Addr} {n c n' c' : Nat} {st cp out arg at' : Int} {set : List Rg} (hx : RgIn w A' n' c' set) (hn : n ≤ maxLen) (t0 : 0 ≤ out) (t1 : out < (n : Int)) (t2 : arg = 0) (t3 : Canon set) (t4 : ¬ 0 < n') :
    Calls Tryd.prog 31 #[.agg #[.slice A n c, .int .i64 st, .int .i64 cp], .agg #[.int .i64 2, .int .i64 out, .int .i64 arg, .slice A' n' c', .int .i64 at']] w (RightB n cp ⟨2, out, arg, A', n', c', at', set⟩ w) := by
  have hfin : ¬ InstOK n cp ⟨2, out, arg, A', n', c', at', set⟩ := by
    rintro (⟨h1, h2, h3, h4, h5⟩ | ⟨h1, h2, h3, h4, h5, h6, h7⟩ | ⟨h1, h2, h3, h4, h5, h6, h7⟩ | ⟨h1, h2, h3, h4, h5, h6, h7⟩ | ⟨h1, h2, h3, h4, h5, h6⟩)
    all_goals simp only at *
    all_goals omega
  have hb : Below w.heap.size w ((w.alloc (.cells #[.slice A n c, .int .i64 st, .int .i64 cp] 28)).alloc (.cells #[.int .i64 2, .int .i64 out, .int .i64 arg, .slice A' n' c', .int .i64 at'] 64)) := ((Below.refl _ _).alloc (Nat.le_refl _) _).alloc (by simp) _
  have hnm : (n : Int) ≤ 9223372036854775807 := by unfold maxLen at hn; omega
  have hnx : (n' : Int) ≤ 9223372036854775807 := by have h1 := hx.max; have h2 := hx.le; unfold maxLen at h1; omega
  have d0 : decide (out < 0) = false := decide_eq_false (by omega)
  have d1 : decide ((n : Int) ≤ out) = false := decide_eq_false (by omega)
  have d2 : (arg != 0) = false := by rw [bne_eq_false_iff_eq]; omega
  have d2b : (arg == 0) = true := beq_iff_eq.2 (by omega)
  have d4 : ((n' : Int) == 0) = true := beq_iff_eq.2 (by omega)
  have d4c : (n' == 0) = true := beq_iff_eq.2 (by omega)
  have d4b : decide (0 < n') = false := decide_eq_false (by omega)
  have cR := refRight_any (RgIn.below hx hb)
  have hBx : Blk ((w.alloc (.cells #[.slice A n c, .int .i64 st, .int .i64 cp] 28)).alloc (.cells #[.int .i64 2, .int .i64 out, .int .i64 arg, .slice A' n' c', .int .i64 at'] 64)) (w.heap.size + 1) 64 #[.int .i64 2, .int .i64 out, .int .i64 arg, .slice A' n' c', .int .i64 at'] := by
    have := Blk.new (w.alloc (.cells #[.slice A n c, .int .i64 st, .int .i64 cp] 28)) 64 #[.int .i64 2, .int .i64 out, .int .i64 arg, .slice A' n' c', .int .i64 at']
    simpa using this
  have HBx := Lib.hid hBx
  clear hBx
  have HB := Lib.hid hb
  have HF := Lib.hid hfin
  clear hfin hx hb t0 t1 t2 t4
  go_enter Tryd.func31, Tryd.ntmps31
  go_wp2_with (go_at_call 50; refine cR.mono ?_; rintro e w5 ⟨⟨b, rfl, hbR⟩, hb5⟩; obtain rfl : b = true := hbR.2 t3; have b5 := HBx.out.below hb5 HBx.out.lt; have e0 : w5.cell? ⟨w.heap.size + 1, 0, none⟩ = some (.int .i64 2) := b5.cell 0; have e3 : w5.cell? ⟨w.heap.size + 1, 3, none⟩ = some (.slice A' n' c') := b5.cell 3; have e4 : w5.cell? ⟨w.heap.size + 1, 4, none⟩ = some (.int .i64 at') := b5.cell 4; have HB5 := Lib.hid (HB.out.trans (hb5.mono HB.out.size)); clear cR hbR hb5 b5)
  go_ret
  exact rightB_mk ⟨fun h => (by cases h), fun h => absurd h HF.out⟩ HB5.out
set_option maxRecDepth 20000 in
set_option maxHeartbeats 1000000 in
theorem inst_2_5 {w : World} {A A' : Option Addr} {n c n' c' : Nat} {st cp out arg at' : Int} {set : List Rg} (hx : RgIn w A' n' c' set) (hn : n ≤ maxLen) (t0 : 0 ≤ out) (t1 : out < (n : Int)) (t2 : arg = 0) (t3 : Canon set) (t4 : 0 < n') (t5 : ¬ at' = 0) :
    Calls Tryd.prog 31 #[.agg #[.slice A n c, .int .i64 st, .int .i64 cp], .agg #[.int .i64 2, .int .i64 out, .int .i64 arg, .slice A' n' c', .int .i64 at']] w (RightB n cp ⟨2, out, arg, A', n', c', at', set⟩ w) := by
  have hfin : ¬ InstOK n cp ⟨2, out, arg, A', n', c', at', set⟩ := by
    rintro (⟨h1, h2, h3, h4, h5⟩ | ⟨h1, h2, h3, h4, h5, h6, h7⟩ | ⟨h1, h2, h3, h4, h5, h6, h7⟩ | ⟨h1, h2, h3, h4, h5, h6, h7⟩ | ⟨h1, h2, h3, h4, h5, h6⟩)
    all_goals simp only at *
    all_goals omega
  have hb : Below w.heap.size w ((w.alloc (.cells #[.slice A n c, .int .i64 st, .int .i64 cp] 28)).alloc (.cells #[.int .i64 2, .int .i64 out, .int .i64 arg, .slice A' n' c', .int .i64 at'] 64)) := ((Below.refl _ _).alloc (Nat.le_refl _) _).alloc (by simp) _
  have hnm : (n : Int) ≤ 9223372036854775807 := by unfold maxLen at hn; omega
  have hnx : (n' : Int) ≤ 9223372036854775807 := by have h1 := hx.max; have h2 := hx.le; unfold maxLen at h1; omega
  have d0 : decide (out < 0) = false := decide_eq_false (by omega)
  have d1 : decide ((n : Int) ≤ out) = false := decide_eq_false (by omega)
  have d2 : (arg != 0) = false := by rw [bne_eq_false_iff_eq]; omega
  have d2b : (arg == 0) = true := beq_iff_eq.2 (by omega)
  have d4 : ((n' : Int) == 0) = false := beq_eq_false_iff_ne.2 (by omega)
  have d4c : (n' == 0) = false := beq_eq_false_iff_ne.2 (by omega)
  have d4b : decide (0 < n') = true := decide_eq_true (by omega)
  have d5 : (at' == 0) = false := beq_eq_false_iff_ne.2 (by omega)
  have d5b : (at' != 0) = true := by rw [bne_iff_ne]; omega
  have cR := refRight_any (RgIn.below hx hb)
  have hBx : Blk ((w.alloc (.cells #[.slice A n c, .int .i64 st, .int .i64 cp] 28)).alloc (.cells #[.int .i64 2, .int .i64 out, .int .i64 arg, .slice A' n' c', .int .i64 at'] 64)) (w.heap.size + 1) 64 #[.int .i64 2, .int .i64 out, .int .i64 arg, .slice A' n' c', .int .i64 at'] := by
    have := Blk.new (w.alloc (.cells #[.slice A n c, .int .i64 st, .int .i64 cp] 28)) 64 #[.int .i64 2, .int .i64 out, .int .i64 arg, .slice A' n' c', .int .i64 at']
    simpa using this
  have HBx := Lib.hid hBx
  clear hBx
  have HB := Lib.hid hb
  have HF := Lib.hid hfin
  clear hfin hx hb t0 t1 t2 t4 t5
  go_enter Tryd.func31, Tryd.ntmps31
  go_wp2_with (go_at_call 50; refine cR.mono ?_; rintro e w5 ⟨⟨b, rfl, hbR⟩, hb5⟩; obtain rfl : b = true := hbR.2 t3; have b5 := HBx.out.below hb5 HBx.out.lt; have e0 : w5.cell? ⟨w.heap.size + 1, 0, none⟩ = some (.int .i64 2) := b5.cell 0; have e3 : w5.cell? ⟨w.heap.size + 1, 3, none⟩ = some (.slice A' n' c') := b5.cell 3; have e4 : w5.cell? ⟨w.heap.size + 1, 4, none⟩ = some (.int .i64 at') := b5.cell 4; have HB5 := Lib.hid (HB.out.trans (hb5.mono HB.out.size)); clear cR hbR hb5 b5)
  go_ret
  exact rightB_mk ⟨fun h => (by cases h), fun h => absurd h HF.out⟩ HB5.out
set_option maxRecDepth 20000 in
set_option maxHeartbeats 1000000 in
theorem inst_2_6 {w : World} {A A' : Option Addr} {n c n' c' : Nat} {st cp out arg at' : Int} {set : List Rg} (hx : RgIn w A' n' c' set) (hn : n ≤ maxLen) (t0 : 0 ≤ out) (t1 : out < (n : Int)) (t2 : arg = 0) (t3 : Canon set) (t4 : 0 < n') (t5 : at' = 0) :
    Calls Tryd.prog 31 #[.agg #[.slice A n c, .int .i64 st, .int .i64 cp], .agg #[.int .i64 2, .int .i64 out, .int .i64 arg, .slice A' n' c', .int .i64 at']] w (RightB n cp ⟨2, out, arg, A', n', c', at', set⟩ w) := by
  have hfin : InstOK n cp ⟨2, out, arg, A', n', c', at', set⟩ := .inr (.inl ⟨rfl, t0, t1, t2, t4, t3, t5⟩)
  have hb : Below w.heap.size w ((w.alloc (.cells #[.slice A n c, .int .i64 st, .int .i64 cp] 28)).alloc (.cells #[.int .i64 2, .int .i64 out, .int .i64 arg, .slice A' n' c', .int .i64 at'] 64)) := ((Below.refl _ _).alloc (Nat.le_refl _) _).alloc (by simp) _
  have hnm : (n : Int) ≤ 9223372036854775807 := by unfold maxLen at hn; omega
  have hnx : (n' : Int) ≤ 9223372036854775807 := by have h1 := hx.max; have h2 := hx.le; unfold maxLen at h1; omega
  have d0 : decide (out < 0) = false := decide_eq_false (by omega)
  have d1 : decide ((n : Int) ≤ out) = false := decide_eq_false (by omega)
  have d2 : (arg != 0) = false := by rw [bne_eq_false_iff_eq]; omega
  have d2b : (arg == 0) = true := beq_iff_eq.2 (by omega)
  have d4 : ((n' : Int) == 0) = false := beq_eq_false_iff_ne.2 (by omega)
  have d4c : (n' == 0) = false := beq_eq_false_iff_ne.2 (by omega)
  have d4b : decide (0 < n') = true := decide_eq_true (by omega)
  have d5 : (at' == 0) = true := beq_iff_eq.2 (by omega)
  have d5b : (at' != 0) = false := by rw [bne_eq_false_iff_eq]; omega
  have cR := refRight_any (RgIn.below hx hb)
  have hBx : Blk ((w.alloc (.cells #[.slice A n c, .int .i64 st, .int .i64 cp] 28)).alloc (.cells #[.int .i64 2, .int .i64 out, .int .i64 arg, .slice A' n' c', .int .i64 at'] 64)) (w.heap.size + 1) 64 #[.int .i64 2, .int .i64 out, .int .i64 arg, .slice A' n' c', .int .i64 at'] := by
    have := Blk.new (w.alloc (.cells #[.slice A n c, .int .i64 st, .int .i64 cp] 28)) 64 #[.int .i64 2, .int .i64 out, .int .i64 arg, .slice A' n' c', .int .i64 at']
    simpa using this
  have HBx := Lib.hid hBx
  clear hBx
  have HB := Lib.hid hb
  have HF := Lib.hid hfin
  clear hfin hx hb t0 t1 t2 t4 t5
  go_enter Tryd.func31, Tryd.ntmps31
  go_wp2_with (go_at_call 50; refine cR.mono ?_; rintro e w5 ⟨⟨b, rfl, hbR⟩, hb5⟩; obtain rfl : b = true := hbR.2 t3; have b5 := HBx.out.below hb5 HBx.out.lt; have e0 : w5.cell? ⟨w.heap.size + 1, 0, none⟩ = some (.int .i64 2) := b5.cell 0; have e3 : w5.cell? ⟨w.heap.size + 1, 3, none⟩ = some (.slice A' n' c') := b5.cell 3; have e4 : w5.cell? ⟨w.heap.size + 1, 4, none⟩ = some (.int .i64 at') := b5.cell 4; have HB5 := Lib.hid (HB.out.trans (hb5.mono HB.out.size)); clear cR hbR hb5 b5)
  go_ret
  exact rightB_mk ⟨fun _ => HF.out, fun _ => rfl⟩ HB5.out
set_option maxRecDepth 20000 in
set_option maxHeartbeats 1000000 in
theorem inst_3_0 {w : World} {A A' : Option Addr} {n c n' c' : Nat} {st cp out arg at' : Int} {set : List Rg} (hx : RgIn w A' n' c' set) (hn : n ≤ maxLen) (t0 : ¬ 0 ≤ out) :
    Calls Tryd.prog 31 #[.agg #[.slice A n c, .int .i64 st, .int .i64 cp], .agg #[.int .i64 3, .int .i64 out, .int .i64 arg, .slice A' n' c', .int .i64 at']] w (RightB n cp ⟨3, out, arg, A', n', c', at', set⟩ w) := by
  have hfin : ¬ InstOK n cp ⟨3, out, arg, A', n', c', at', set⟩ := by
    rintro (⟨h1, h2, h3, h4, h5⟩ | ⟨h1, h2, h3, h4, h5, h6, h7⟩ | ⟨h1, h2, h3, h4, h5, h6, h7⟩ | ⟨h1, h2, h3, h4, h5, h6, h7⟩ | ⟨h1, h2, h3, h4, h5, h6⟩)
    all_goals simp only at *
    all_goals omega
  have hb : Below w.heap.size w ((w.alloc (.cells #[.slice A n c, .int .i64 st, .int .i64 cp] 28)).alloc (.cells #[.int .i64 3, .int .i64 out, .int .i64 arg, .slice A' n' c', .int .i64 at'] 64)) := ((Below.refl _ _).alloc (Nat.le_refl _) _).alloc (by simp) _
  have hnm : (n : Int) ≤ 9223372036854775807 := by unfold maxLen at hn; omega
  have hnx : (n' : Int) ≤ 9223372036854775807 := by have h1 := hx.max; have h2 := hx.le; unfold maxLen at h1; omega
  have d0 : decide (out < 0) = true := decide_eq_true (by omega)
  have HB := Lib.hid hb
  have HF := Lib.hid hfin
  clear hfin hx hb t0
  go_enter Tryd.func31, Tryd.ntmps31
  go_wp2_with fail
  go_ret
  exact rightB_mk ⟨fun h => (by cases h), fun h => absurd h HF.out⟩ HB.out
set_option maxRecDepth 20000 in
set_option maxHeartbeats 1000000 in
theorem inst_3_1 {w : World} {A A' : Option Addr} {n c n' c' : Nat} {st cp out arg at' : Int} {set : List Rg} (hx : RgIn w A' n' c' set) (hn : n ≤ maxLen) (t0 : 0 ≤ out) (t1 : ¬ out < (n : Int)) :
    Calls Tryd.prog 31 #[.agg #[.slice A n c, .int .i64 st, .int .i64 cp], .agg #[.int .i64 3, .int .i64 out, .int .i64 arg, .slice A' n' c', .int .i64 at']] w (RightB n cp ⟨3, out, arg, A', n', c', at', set⟩ w) := by
  have hfin : ¬ InstOK n cp ⟨3, out, arg, A', n', c', at', set⟩ := by
    rintro (⟨h1, h2, h3, h4, h5⟩ | ⟨h1, h2, h3, h4, h5, h6, h7⟩ | ⟨h1, h2, h3, h4, h5, h6, h7⟩ | ⟨h1, h2, h3, h4, h5, h6, h7⟩ | ⟨h1, h2, h3, h4, h5, h6⟩)
    all_goals simp only at *
    all_goals omega
  have hb : Below w.heap.size w ((w.alloc (.cells #[.slice A n c, .int .i64 st, .int .i64 cp] 28)).alloc (.cells #[.int .i64 3, .int .i64 out, .int .i64 arg, .slice A' n' c', .int .i64 at'] 64)) := ((Below.refl _ _).alloc (Nat.le_refl _) _).alloc (by simp) _
  have hnm : (n : Int) ≤ 9223372036854775807 := by unfold maxLen at hn; omega
  have hnx : (n' : Int) ≤ 9223372036854775807 := by have h1 := hx.max; have h2 := hx.le; unfold maxLen at h1; omega
  have d0 : decide (out < 0) = false := decide_eq_false (by omega)
  have d1 : decide ((n : Int) ≤ out) = true := decide_eq_true (by omega)
  have HB := Lib.hid hb
  have HF := Lib.hid hfin
  clear hfin hx hb t0 t1
  go_enter Tryd.func31, Tryd.ntmps31
  go_wp2_with fail
  go_ret
  exact rightB_mk ⟨fun h => (by cases h), fun h => absurd h HF.out⟩ HB.out
set_option maxRecDepth 20000 in
set_option maxHeartbeats 1000000 in
theorem inst_3_2 {w : World} {A A' : Option Addr} {n c n' c' : Nat} {st cp out arg at' : Int} {set : List Rg} (hx : RgIn w A' n' c' set) (hn : n ≤ maxLen) (t0 : 0 ≤ out) (t1 : out < (n : Int)) (t2 : ¬ 0 ≤ arg) :
    Calls Tryd.prog 31 #[.agg #[.slice A n c, .int .i64 st, .int .i64 cp], .agg #[.int .i64 3, .int .i64 out, .int .i64 arg, .slice A' n' c', .int .i64 at']] w (RightB n cp ⟨3, out, arg, A', n', c', at', set⟩ w) := by
  have hfin : ¬ InstOK n cp ⟨3, out, arg, A', n', c', at', set⟩ := by
    rintro (⟨h1, h2, h3, h4, h5⟩ | ⟨h1, h2, h3, h4, h5, h6, h7⟩ | ⟨h1, h2, h3, h4, h5, h6, h7⟩ | ⟨h1, h2, h3, h4, h5, h6, h7⟩ | ⟨h1, h2, h3, h4, h5, h6⟩)
    all_goals simp only at *
    all_goals omega
  have hb : Below w.heap.size w ((w.alloc (.cells #[.slice A n c, .int .i64 st, .int .i64 cp] 28)).alloc (.cells #[.int .i64 3, .int .i64 out, .int .i64 arg, .slice A' n' c', .int .i64 at'] 64)) := ((Below.refl _ _).alloc (Nat.le_refl _) _).alloc (by simp) _
  have hnm : (n : Int) ≤ 9223372036854775807 := by unfold maxLen at hn; omega
  have hnx : (n' : Int) ≤ 9223372036854775807 := by have h1 := hx.max; have h2 := hx.le; unfold maxLen at h1; omega
  have d0 : decide (out < 0) = false := decide_eq_false (by omega)
  have d1 : decide ((n : Int) ≤ out) = false := decide_eq_false (by omega)
  have d2 : decide (arg < 0) = true := decide_eq_true (by omega)
  have HB := Lib.hid hb
  have HF := Lib.hid hfin
  clear hfin hx hb t0 t1 t2
  go_enter Tryd.func31, Tryd.ntmps31
  go_wp2_with fail
  go_ret
  exact rightB_mk ⟨fun h => (by cases h), fun h => absurd h HF.out⟩ HB.out
set_option maxRecDepth 20000 in
set_option maxHeartbeats 1000000 in
theorem inst_3_3 {w : World} {A A' : Option Addr} {n c n' c' : Nat} {st cp out arg at' : Int} {set : List Rg} (hx : RgIn w A' n' c' set) (hn : n ≤ maxLen) (t0 : 0 ≤ out) (t1 : out < (n : Int)) (t2 : 0 ≤ arg) (t3 : ¬ arg < (n : Int)) :
    Calls Tryd.prog 31 #[.agg #[.slice A n c, .int .i64 st, .int .i64 cp], .agg #[.int .i64 3, .int .i64 out, .int .i64 arg, .slice A' n' c', .int .i64 at']] w (RightB n cp ⟨3, out, arg, A', n', c', at', set⟩ w) := by
  have hfin : ¬ InstOK n cp ⟨3, out, arg, A', n', c', at', set⟩ := by
    rintro (⟨h1, h2, h3, h4, h5⟩ | ⟨h1, h2, h3, h4, h5, h6, h7⟩ | ⟨h1, h2, h3, h4, h5, h6, h7⟩ | ⟨h1, h2, h3, h4, h5, h6, h7⟩ | ⟨h1, h2, h3, h4, h5, h6⟩)
    all_goals simp only at *
    all_goals omega
  have hb : Below w.heap.size w ((w.alloc (.cells #[.slice A n c, .int .i64 st, .int .i64 cp] 28)).alloc (.cells #[.int .i64 3, .int .i64 out, .int .i64 arg, .slice A' n' c', .int .i64 at'] 64)) := ((Below.refl _ _).alloc (Nat.le_refl _) _).alloc (by simp) _
  have hnm : (n : Int) ≤ 9223372036854775807 := by unfold maxLen at hn; omega
  have hnx : (n' : Int) ≤ 9223372036854775807 := by have h1 := hx.max; have h2 := hx.le; unfold maxLen at h1; omega
  have d0 : decide (out < 0) = false := decide_eq_false (by omega)
  have d1 : decide ((n : Int) ≤ out) = false := decide_eq_false (by omega)
  have d2 : decide (arg < 0) = false := decide_eq_false (by omega)
  have d3 : decide ((n : Int) ≤ arg) = true := decide_eq_true (by omega)
  have HB := Lib.hid hb
  have HF := Lib.hid hfin
  clear hfin hx hb t0 t1 t2 t3
  go_enter Tryd.func31, Tryd.ntmps31
  go_wp2_with fail
  go_ret
  exact rightB_mk ⟨fun h => (by cases h), fun h => absurd h HF.out⟩ HB.out
set_option maxRecDepth 20000 in
set_option maxHeartbeats 1000000 in
theorem inst_3_5 {w : World} {A A' : Option Addr} {n c n' c' : Nat} {st cp out arg at' : Int} {set : List Rg} (hx : RgIn w A' n' c' set) (hn : n ≤ maxLen) (t0 : 0 ≤ out) (t1 : out < (n : Int)) (t2 : 0 ≤ arg) (t3 : arg < (n : Int)) (t5 : ¬ n' = 0) :
    Calls Tryd.prog 31 #[.agg #[.slice A n c, .int .i64 st, .int .i64 cp], .agg #[.int .i64 3, .int .i64 out, .int .i64 arg, .slice A' n' c', .int .i64 at']] w (RightB n cp ⟨3, out, arg, A', n', c', at', set⟩ w) := by
  have hfin : ¬ InstOK n cp ⟨3, out, arg, A', n', c', at', set⟩ := by
    rintro (⟨h1, h2, h3, h4, h5⟩ | ⟨h1, h2, h3, h4, h5, h6, h7⟩ | ⟨h1, h2, h3, h4, h5, h6, h7⟩ | ⟨h1, h2, h3, h4, h5, h6, h7⟩ | ⟨h1, h2, h3, h4, h5, h6⟩)
    all_goals simp only at *
    all_goals omega
  have hb : Below w.heap.size w ((w.alloc (.cells #[.slice A n c, .int .i64 st, .int .i64 cp] 28)).alloc (.cells #[.int .i64 3, .int .i64 out, .int .i64 arg, .slice A' n' c', .int .i64 at'] 64)) := ((Below.refl _ _).alloc (Nat.le_refl _) _).alloc (by simp) _
  have hnm : (n : Int) ≤ 9223372036854775807 := by unfold maxLen at hn; omega
  have hnx : (n' : Int) ≤ 9223372036854775807 := by have h1 := hx.max; have h2 := hx.le; unfold maxLen at h1; omega
  have d0 : decide (out < 0) = false := decide_eq_false (by omega)
  have d1 : decide ((n : Int) ≤ out) = false := decide_eq_false (by omega)
  have d2 : decide (arg < 0) = false := decide_eq_false (by omega)
  have d3 : decide ((n : Int) ≤ arg) = false := decide_eq_false (by omega)
  have d5 : decide (0 < n') = true := decide_eq_true (by omega)
  have d5b : decide ((0 : Int) < (n' : Int)) = true := decide_eq_true (by omega)
  have cR := refRight_any (RgIn.below hx hb)
  have hBx : Blk ((w.alloc (.cells #[.slice A n c, .int .i64 st, .int .i64 cp] 28)).alloc (.cells #[.int .i64 3, .int .i64 out, .int .i64 arg, .slice A' n' c', .int .i64 at'] 64)) (w.heap.size + 1) 64 #[.int .i64 3, .int .i64 out, .int .i64 arg, .slice A' n' c', .int .i64 at'] := by
    have := Blk.new (w.alloc (.cells #[.slice A n c, .int .i64 st, .int .i64 cp] 28)) 64 #[.int .i64 3, .int .i64 out, .int .i64 arg, .slice A' n' c', .int .i64 at']
    simpa using this
  have HBx := Lib.hid hBx
  clear hBx
  have HB := Lib.hid hb
  have HF := Lib.hid hfin
  clear hfin hx hb t0 t1 t2 t3 t5
  go_enter Tryd.func31, Tryd.ntmps31
  go_wp2_with (go_at_call 50; refine cR.mono ?_; rintro e w5 ⟨⟨b, rfl, hbR⟩, hb5⟩; have b5 := HBx.out.below hb5 HBx.out.lt; have e0 : w5.cell? ⟨w.heap.size + 1, 0, none⟩ = some (.int .i64 3) := b5.cell 0; have e3 : w5.cell? ⟨w.heap.size + 1, 3, none⟩ = some (.slice A' n' c') := b5.cell 3; have e4 : w5.cell? ⟨w.heap.size + 1, 4, none⟩ = some (.int .i64 at') := b5.cell 4; have HB5 := Lib.hid (HB.out.trans (hb5.mono HB.out.size)); clear cR hbR hb5 b5)
  go_ret
  exact rightB_mk ⟨fun h => (by cases h), fun h => absurd h HF.out⟩ HB5.out
set_option maxRecDepth 20000 in
set_option maxHeartbeats 1000000 in
theorem inst_3_6 {w : World} {A A' : Option Addr} {n c n' c' : Nat} {st cp out arg at' : Int} {set : List Rg} (hx : RgIn w A' n' c' set) (hn : n ≤ maxLen) (t0 : 0 ≤ out) (t1 : out < (n : Int)) (t2 : 0 ≤ arg) (t3 : arg < (n : Int)) (t5 : n' = 0) (t6 : ¬ at' = 0) :
    Calls Tryd.prog 31 #[.agg #[.slice A n c, .int .i64 st, .int .i64 cp], .agg #[.int .i64 3, .int .i64 out, .int .i64 arg, .slice A' n' c', .int .i64 at']] w (RightB n cp ⟨3, out, arg, A', n', c', at', set⟩ w) := by
  have hfin : ¬ InstOK n cp ⟨3, out, arg, A', n', c', at', set⟩ := by
    rintro (⟨h1, h2, h3, h4, h5⟩ | ⟨h1, h2, h3, h4, h5, h6, h7⟩ | ⟨h1, h2, h3, h4, h5, h6, h7⟩ | ⟨h1, h2, h3, h4, h5, h6, h7⟩ | ⟨h1, h2, h3, h4, h5, h6⟩)
    all_goals simp only at *
    all_goals omega
  have hb : Below w.heap.size w ((w.alloc (.cells #[.slice A n c, .int .i64 st, .int .i64 cp] 28)).alloc (.cells #[.int .i64 3, .int .i64 out, .int .i64 arg, .slice A' n' c', .int .i64 at'] 64)) := ((Below.refl _ _).alloc (Nat.le_refl _) _).alloc (by simp) _
  have hnm : (n : Int) ≤ 9223372036854775807 := by unfold maxLen at hn; omega
  have hnx : (n' : Int) ≤ 9223372036854775807 := by have h1 := hx.max; have h2 := hx.le; unfold maxLen at h1; omega
  have d0 : decide (out < 0) = false := decide_eq_false (by omega)
  have d1 : decide ((n : Int) ≤ out) = false := decide_eq_false (by omega)
  have d2 : decide (arg < 0) = false := decide_eq_false (by omega)
  have d3 : decide ((n : Int) ≤ arg) = false := decide_eq_false (by omega)
  have d5 : decide (0 < n') = false := decide_eq_false (by omega)
  have d5b : decide ((0 : Int) < (n' : Int)) = false := decide_eq_false (by omega)
  have d6 : (at' == 0) = false := beq_eq_false_iff_ne.2 (by omega)
  have d6b : (at' != 0) = true := by rw [bne_iff_ne]; omega
  have cR := refRight_any (RgIn.below hx hb)
  have hBx : Blk ((w.alloc (.cells #[.slice A n c, .int .i64 st, .int .i64 cp] 28)).alloc (.cells #[.int .i64 3, .int .i64 out, .int .i64 arg, .slice A' n' c', .int .i64 at'] 64)) (w.heap.size + 1) 64 #[.int .i64 3, .int .i64 out, .int .i64 arg, .slice A' n' c', .int .i64 at'] := by
    have := Blk.new (w.alloc (.cells #[.slice A n c, .int .i64 st, .int .i64 cp] 28)) 64 #[.int .i64 3, .int .i64 out, .int .i64 arg, .slice A' n' c', .int .i64 at']
    simpa using this
  have HBx := Lib.hid hBx
  clear hBx
  have HB := Lib.hid hb
  have HF := Lib.hid hfin
  clear hfin hx hb t0 t1 t2 t3 t5 t6
  go_enter Tryd.func31, Tryd.ntmps31
  go_wp2_with (go_at_call 50; refine cR.mono ?_; rintro e w5 ⟨⟨b, rfl, hbR⟩, hb5⟩; have b5 := HBx.out.below hb5 HBx.out.lt; have e0 : w5.cell? ⟨w.heap.size + 1, 0, none⟩ = some (.int .i64 3) := b5.cell 0; have e3 : w5.cell? ⟨w.heap.size + 1, 3, none⟩ = some (.slice A' n' c') := b5.cell 3; have e4 : w5.cell? ⟨w.heap.size + 1, 4, none⟩ = some (.int .i64 at') := b5.cell 4; have HB5 := Lib.hid (HB.out.trans (hb5.mono HB.out.size)); clear cR hbR hb5 b5)
  go_ret
  exact rightB_mk ⟨fun h => (by cases h), fun h => absurd h HF.out⟩ HB5.out
set_option maxRecDepth 20000 in
set_option maxHeartbeats 1000000 in
theorem inst_3_7 {w : World} {A A' : Option Addr} {n c n' c' : Nat} {st cp out arg at' : Int} {set : List Rg} (hx : RgIn w A' n' c' set) (hn : n ≤ maxLen) (t0 : 0 ≤ out) (t1 : out < (n : Int)) (t2 : 0 ≤ arg) (t3 : arg < (n : Int)) (t5 : n' = 0) (t6 : at' = 0) :
    Calls Tryd.prog 31 #[.agg #[.slice A n c, .int .i64 st, .int .i64 cp], .agg #[.int .i64 3, .int .i64 out, .int .i64 arg, .slice A' n' c', .int .i64 at']] w (RightB n cp ⟨3, out, arg, A', n', c', at', set⟩ w) := by
  have hfin : InstOK n cp ⟨3, out, arg, A', n', c', at', set⟩ := .inr (.inr (.inl ⟨rfl, t0, t1, t2, t3, t5, t6⟩))
  have hb : Below w.heap.size w ((w.alloc (.cells #[.slice A n c, .int .i64 st, .int .i64 cp] 28)).alloc (.cells #[.int .i64 3, .int .i64 out, .int .i64 arg, .slice A' n' c', .int .i64 at'] 64)) := ((Below.refl _ _).alloc (Nat.le_refl _) _).alloc (by simp) _
  have hnm : (n : Int) ≤ 9223372036854775807 := by unfold maxLen at hn; omega
  have hnx : (n' : Int) ≤ 9223372036854775807 := by have h1 := hx.max; have h2 := hx.le; unfold maxLen at h1; omega
  have d0 : decide (out < 0) = false := decide_eq_false (by omega)
  have d1 : decide ((n : Int) ≤ out) = false := decide_eq_false (by omega)
  have d2 : decide (arg < 0) = false := decide_eq_false (by omega)
  have d3 : decide ((n : Int) ≤ arg) = false := decide_eq_false (by omega)
  have d5 : decide (0 < n') = false := decide_eq_false (by omega)
  have d5b : decide ((0 : Int) < (n' : Int)) = false := decide_eq_false (by omega)
  have d6 : (at' == 0) = true := beq_iff_eq.2 (by omega)
  have d6b : (at' != 0) = false := by rw [bne_eq_false_iff_eq]; omega
  have cR := refRight_any (RgIn.below hx hb)
  have hBx : Blk ((w.alloc (.cells #[.slice A n c, .int .i64 st, .int .i64 cp] 28)).alloc (.cells #[.int .i64 3, .int .i64 out, .int .i64 arg, .slice A' n' c', .int .i64 at'] 64)) (w.heap.size + 1) 64 #[.int .i64 3, .int .i64 out, .int .i64 arg, .slice A' n' c', .int .i64 at'] := by
    have := Blk.new (w.alloc (.cells #[.slice A n c, .int .i64 st, .int .i64 cp] 28)) 64 #[.int .i64 3, .int .i64 out, .int .i64 arg, .slice A' n' c', .int .i64 at']
    simpa using this
  have HBx := Lib.hid hBx
  clear hBx
  have HB := Lib.hid hb
  have HF := Lib.hid hfin
  clear hfin hx hb t0 t1 t2 t3 t5 t6
  go_enter Tryd.func31, Tryd.ntmps31
  go_wp2_with (go_at_call 50; refine cR.mono ?_; rintro e w5 ⟨⟨b, rfl, hbR⟩, hb5⟩; have b5 := HBx.out.below hb5 HBx.out.lt; have e0 : w5.cell? ⟨w.heap.size + 1, 0, none⟩ = some (.int .i64 3) := b5.cell 0; have e3 : w5.cell? ⟨w.heap.size + 1, 3, none⟩ = some (.slice A' n' c') := b5.cell 3; have e4 : w5.cell? ⟨w.heap.size + 1, 4, none⟩ = some (.int .i64 at') := b5.cell 4; have HB5 := Lib.hid (HB.out.trans (hb5.mono HB.out.size)); clear cR hbR hb5 b5)
  go_ret
  exact rightB_mk ⟨fun _ => HF.out, fun _ => rfl⟩ HB5.out
set_option maxRecDepth 20000 in
set_option maxHeartbeats 1000000 in
theorem inst_4_0 {w : World} {A A' : Option Addr} {n c n' c' : Nat} {st cp out arg at' : Int} {set : List Rg} (hx : RgIn w A' n' c' set) (hn : n ≤ maxLen) (t0 : ¬ 0 ≤ out) :
    Calls Tryd.prog 31 #[.agg #[.slice A n c, .int .i64 st, .int .i64 cp], .agg #[.int .i64 4, .int .i64 out, .int .i64 arg, .slice A' n' c', .int .i64 at']] w (RightB n cp ⟨4, out, arg, A', n', c', at', set⟩ w) := by
  have hfin : ¬ InstOK n cp ⟨4, out, arg, A', n', c', at', set⟩ := by
    rintro (⟨h1, h2, h3, h4, h5⟩ | ⟨h1, h2, h3, h4, h5, h6, h7⟩ | ⟨h1, h2, h3, h4, h5, h6, h7⟩ | ⟨h1, h2, h3, h4, h5, h6, h7⟩ | ⟨h1, h2, h3, h4, h5, h6⟩)
    all_goals simp only at *
    all_goals omega
  have hb : Below w.heap.size w ((w.alloc (.cells #[.slice A n c, .int .i64 st, .int .i64 cp] 28)).alloc (.cells #[.int .i64 4, .int .i64 out, .int .i64 arg, .slice A' n' c', .int .i64 at'] 64)) := ((Below.refl _ _).alloc (Nat.le_refl _) _).alloc (by simp) _
  have hnm : (n : Int) ≤ 9223372036854775807 := by unfold maxLen at hn; omega
  have hnx : (n' : Int) ≤ 9223372036854775807 := by have h1 := hx.max; have h2 := hx.le; unfold maxLen at h1; omega
  have d0 : decide (out < 0) = true := decide_eq_true (by omega)
  have HB := Lib.hid hb
  have HF := Lib.hid hfin
  clear hfin hx hb t0
  go_enter Tryd.func31, Tryd.ntmps31
  go_wp2_with fail
  go_ret
  exact rightB_mk ⟨fun h => (by cases h), fun h => absurd h HF.out⟩ HB.out
set_option maxRecDepth 20000 in
set_option maxHeartbeats 1000000 in
theorem inst_4_1 {w : World} {A A' : Option Addr} {n c n' c' : Nat} {st cp out arg at' : Int} {set : List Rg} (hx : RgIn w A' n' c' set) (hn : n ≤ maxLen) (t0 : 0 ≤ out) (t1 : ¬ out < (n : Int)) :
    Calls Tryd.prog 31 #[.agg #[.slice A n c, .int .i64 st, .int .i64 cp], .agg #[.int .i64 4, .int .i64 out, .int .i64 arg, .slice A' n' c', .int .i64 at']] w (RightB n cp ⟨4, out, arg, A', n', c', at', set⟩ w) := by
  have hfin : ¬ InstOK n cp ⟨4, out, arg, A', n', c', at', set⟩ := by
    rintro (⟨h1, h2, h3, h4, h5⟩ | ⟨h1, h2, h3, h4, h5, h6, h7⟩ | ⟨h1, h2, h3, h4, h5, h6, h7⟩ | ⟨h1, h2, h3, h4, h5, h6, h7⟩ | ⟨h1, h2, h3, h4, h5, h6⟩)
    all_goals simp only at *
    all_goals omega
  have hb : Below w.heap.size w ((w.alloc (.cells #[.slice A n c, .int .i64 st, .int .i64 cp] 28)).alloc (.cells #[.int .i64 4, .int .i64 out, .int .i64 arg, .slice A' n' c', .int .i64 at'] 64)) := ((Below.refl _ _).alloc (Nat.le_refl _) _).alloc (by simp) _
  have hnm : (n : Int) ≤ 9223372036854775807 := by unfold maxLen at hn; omega
  have hnx : (n' : Int) ≤ 9223372036854775807 := by have h1 := hx.max; have h2 := hx.le; unfold maxLen at h1; omega
  have d0 : decide (out < 0) = false := decide_eq_false (by omega)
  have d1 : decide ((n : Int) ≤ out) = true := decide_eq_true (by omega)
  have HB := Lib.hid hb
  have HF := Lib.hid hfin
  clear hfin hx hb t0 t1
  go_enter Tryd.func31, Tryd.ntmps31
  go_wp2_with fail
  go_ret
  exact rightB_mk ⟨fun h => (by cases h), fun h => absurd h HF.out⟩ HB.out
set_option maxRecDepth 20000 in
set_option maxHeartbeats 1000000 in
theorem inst_4_2 {w : World} {A A' : Option Addr} {n c n' c' : Nat} {st cp out arg at' : Int} {set : List Rg} (hx : RgIn w A' n' c' set) (hn : n ≤ maxLen) (t0 : 0 ≤ out) (t1 : out < (n : Int)) (t2 : ¬ 2 ≤ arg) :
    Calls Tryd.prog 31 #[.agg #[.slice A n c, .int .i64 st, .int .i64 cp], .agg #[.int .i64 4, .int .i64 out, .int .i64 arg, .slice A' n' c', .int .i64 at']] w (RightB n cp ⟨4, out, arg, A', n', c', at', set⟩ w) := by
  have hfin : ¬ InstOK n cp ⟨4, out, arg, A', n', c', at', set⟩ := by
    rintro (⟨h1, h2, h3, h4, h5⟩ | ⟨h1, h2, h3, h4, h5, h6, h7⟩ | ⟨h1, h2, h3, h4, h5, h6, h7⟩ | ⟨h1, h2, h3, h4, h5, h6, h7⟩ | ⟨h1, h2, h3, h4, h5, h6⟩)
    all_goals simp only at *
    all_goals omega
  have hb : Below w.heap.size w ((w.alloc (.cells #[.slice A n c, .int .i64 st, .int .i64 cp] 28)).alloc (.cells #[.int .i64 4, .int .i64 out, .int .i64 arg, .slice A' n' c', .int .i64 at'] 64)) := ((Below.refl _ _).alloc (Nat.le_refl _) _).alloc (by simp) _
  have hnm : (n : Int) ≤ 9223372036854775807 := by unfold maxLen at hn; omega
  have hnx : (n' : Int) ≤ 9223372036854775807 := by have h1 := hx.max; have h2 := hx.le; unfold maxLen at h1; omega
  have d0 : decide (out < 0) = false := decide_eq_false (by omega)
  have d1 : decide ((n : Int) ≤ out) = false := decide_eq_false (by omega)
  have d2 : decide (arg < 2) = true := decide_eq_true (by omega)
  have HB := Lib.hid hb
  have HF := Lib.hid hfin
  clear hfin hx hb t0 t1 t2
  go_enter Tryd.func31, Tryd.ntmps31
  go_wp2_with fail
  go_ret
  exact rightB_mk ⟨fun h => (by cases h), fun h => absurd h HF.out⟩ HB.out
set_option maxRecDepth 20000 in
set_option maxHeartbeats 1000000 in
theorem inst_4_3 {w : World} {A A' : Option Addr} {n c n' c' : Nat} {st cp out arg at' : Int} {set : List Rg} (hx : RgIn w A' n' c' set) (hn : n ≤ maxLen) (t0 : 0 ≤ out) (t1 : out < (n : Int)) (t2 : 2 ≤ arg) (t3 : ¬ arg < cp) :
    Calls Tryd.prog 31 #[.agg #[.slice A n c, .int .i64 st, .int .i64 cp], .agg #[.int .i64 4, .int .i64 out, .int .i64 arg, .slice A' n' c', .int .i64 at']] w (RightB n cp ⟨4, out, arg, A', n', c', at', set⟩ w) := by
  have hfin : ¬ InstOK n cp ⟨4, out, arg, A', n', c', at', set⟩ := by
    rintro (⟨h1, h2, h3, h4, h5⟩ | ⟨h1, h2, h3, h4, h5, h6, h7⟩ | ⟨h1, h2, h3, h4, h5, h6, h7⟩ | ⟨h1, h2, h3, h4, h5, h6, h7⟩ | ⟨h1, h2, h3, h4, h5, h6⟩)
    all_goals simp only at *
    all_goals omega
  have hb : Below w.heap.size w ((w.alloc (.cells #[.slice A n c, .int .i64 st, .int .i64 cp] 28)).alloc (.cells #[.int .i64 4, .int .i64 out, .int .i64 arg, .slice A' n' c', .int .i64 at'] 64)) := ((Below.refl _ _).alloc (Nat.le_refl _) _).alloc (by simp) _
  have hnm : (n : Int) ≤ 9223372036854775807 := by unfold maxLen at hn; omega
  have hnx : (n' : Int) ≤ 9223372036854775807 := by have h1 := hx.max; have h2 := hx.le; unfold maxLen at h1; omega
  have d0 : decide (out < 0) = false := decide_eq_false (by omega)
  have d1 : decide ((n : Int) ≤ out) = false := decide_eq_false (by omega)
  have d2 : decide (arg < 2) = false := decide_eq_false (by omega)
  have d3 : decide (cp ≤ arg) = true := decide_eq_true (by omega)
  have HB := Lib.hid hb
  have HF := Lib.hid hfin
  clear hfin hx hb t0 t1 t2 t3
  go_enter Tryd.func31, Tryd.ntmps31
  go_wp2_with fail
  go_ret
  exact rightB_mk ⟨fun h => (by cases h), fun h => absurd h HF.out⟩ HB.out
set_option maxRecDepth 20000 in
set_option maxHeartbeats 1000000 in
theorem inst_4_5 {w : World} {A A' : Option Addr} {n c n' c' : Nat} {st cp out arg at' : Int} {set : List Rg} (hx : RgIn w A' n' c' set) (hn : n ≤ maxLen) (t0 : 0 ≤ out) (t1 : out < (n : Int)) (t2 : 2 ≤ arg) (t3 : arg < cp) (t5 : ¬ n' = 0) :
    Calls Tryd.prog 31 #[.agg #[.slice A n c, .int .i64 st, .int .i64 cp], .agg #[.int .i64 4, .int .i64 out, .int .i64 arg, .slice A' n' c', .int .i64 at']] w (RightB n cp ⟨4, out, arg, A', n', c', at', set⟩ w) := by
  have hfin : ¬ InstOK n cp ⟨4, out, arg, A', n', c', at', set⟩ := by
    rintro (⟨h1, h2, h3, h4, h5⟩ | ⟨h1, h2, h3, h4, h5, h6, h7⟩ | ⟨h1, h2, h3, h4, h5, h6, h7⟩ | ⟨h1, h2, h3, h4, h5, h6, h7⟩ | ⟨h1, h2, h3, h4, h5, h6⟩)
    all_goals simp only at *
    all_goals omega
  have hb : Below w.heap.size w ((w.alloc (.cells #[.slice A n c, .int .i64 st, .int .i64 cp] 28)).alloc (.cells #[.int .i64 4, .int .i64 out, .int .i64 arg, .slice A' n' c', .int .i64 at'] 64)) := ((Below.refl _ _).alloc (Nat.le_refl _) _).alloc (by simp) _
  have hnm : (n : Int) ≤ 9223372036854775807 := by unfold maxLen at hn; omega
  have hnx : (n' : Int) ≤ 9223372036854775807 := by have h1 := hx.max; have h2 := hx.le; unfold maxLen at h1; omega
  have d0 : decide (out < 0) = false := decide_eq_false (by omega)
  have d1 : decide ((n : Int) ≤ out) = false := decide_eq_false (by omega)
  have d2 : decide (arg < 2) = false := decide_eq_false (by omega)
  have d3 : decide (cp ≤ arg) = false := decide_eq_false (by omega)
  have d5 : decide (0 < n') = true := decide_eq_true (by omega)
  have d5b : decide ((0 : Int) < (n' : Int)) = true := decide_eq_true (by omega)
  have cR := refRight_any (RgIn.below hx hb)
  have hBx : Blk ((w.alloc (.cells #[.slice A n c, .int .i64 st, .int .i64 cp] 28)).alloc (.cells #[.int .i64 4, .int .i64 out, .int .i64 arg, .slice A' n' c', .int .i64 at'] 64)) (w.heap.size + 1) 64 #[.int .i64 4, .int .i64 out, .int .i64 arg, .slice A' n' c', .int .i64 at'] := by
    have := Blk.new (w.alloc (.cells #[.slice A n c, .int .i64 st, .int .i64 cp] 28)) 64 #[.int .i64 4, .int .i64 out, .int .i64 arg, .slice A' n' c', .int .i64 at']
    simpa using this
  have HBx := Lib.hid hBx
  clear hBx
  have HB := Lib.hid hb
  have HF := Lib.hid hfin
  clear hfin hx hb t0 t1 t2 t3 t5
  go_enter Tryd.func31, Tryd.ntmps31
  go_wp2_with (go_at_call 50; refine cR.mono ?_; rintro e w5 ⟨⟨b, rfl, hbR⟩, hb5⟩; have b5 := HBx.out.below hb5 HBx.out.lt; have e0 : w5.cell? ⟨w.heap.size + 1, 0, none⟩ = some (.int .i64 4) := b5.cell 0; have e3 : w5.cell? ⟨w.heap.size + 1, 3, none⟩ = some (.slice A' n' c') := b5.cell 3; have e4 : w5.cell? ⟨w.heap.size + 1, 4, none⟩ = some (.int .i64 at') := b5.cell 4; have HB5 := Lib.hid (HB.out.trans (hb5.mono HB.out.size)); clear cR hbR hb5 b5)
  go_ret
  exact rightB_mk ⟨fun h => (by cases h), fun h => absurd h HF.out⟩ HB5.out
set_option maxRecDepth 20000 in
set_option maxHeartbeats 1000000 in
theorem inst_4_6 {w : World} {A A' : Option Addr} {n c n' c' : Nat} {st cp out arg at' : Int} {set : List Rg} (hx : RgIn w A' n' c' set) (hn : n ≤ maxLen) (t0 : 0 ≤ out) (t1 : out < (n : Int)) (t2 : 2 ≤ arg) (t3 : arg < cp) (t5 : n' = 0) (t6 : ¬ at' = 0) :
    Calls Tryd.prog 31 #[.agg #[.slice A n c, .int .i64 st, .int .i64 cp], .agg #[.int .i64 4, .int .i64 out, .int .i64 arg, .slice A' n' c', .int .i64 at']] w (RightB n cp ⟨4, out, arg, A', n', c', at', set⟩ w) := by
  have hfin : ¬ InstOK n cp ⟨4, out, arg, A', n', c', at', set⟩ := by
    rintro (⟨h1, h2, h3, h4, h5⟩ | ⟨h1, h2, h3, h4, h5, h6, h7⟩ | ⟨h1, h2, h3, h4, h5, h6, h7⟩ | ⟨h1, h2, h3, h4, h5, h6, h7⟩ | ⟨h1, h2, h3, h4, h5, h6⟩)
    all_goals simp only at *
    all_goals omega
  have hb : Below w.heap.size w ((w.alloc (.cells #[.slice A n c, .int .i64 st, .int .i64 cp] 28)).alloc (.cells #[.int .i64 4, .int .i64 out, .int .i64 arg, .slice A' n' c', .int .i64 at'] 64)) := ((Below.refl _ _).alloc (Nat.le_refl _) _).alloc (by simp) _
  have hnm : (n : Int) ≤ 9223372036854775807 := by unfold maxLen at hn; omega
  have hnx : (n' : Int) ≤ 9223372036854775807 := by have h1 := hx.max; have h2 := hx.le; unfold maxLen at h1; omega
  have d0 : decide (out < 0) = false := decide_eq_false (by omega)
  have d1 : decide ((n : Int) ≤ out) = false := decide_eq_false (by omega)
  have d2 : decide (arg < 2) = false := decide_eq_false (by omega)
  have d3 : decide (cp ≤ arg) = false := decide_eq_false (by omega)
  have d5 : decide (0 < n') = false := decide_eq_false (by omega)
  have d5b : decide ((0 : Int) < (n' : Int)) = false := decide_eq_false (by omega)
  have d6 : (at' == 0) = false := beq_eq_false_iff_ne.2 (by omega)
  have d6b : (at' != 0) = true := by rw [bne_iff_ne]; omega
  have cR := refRight_any (RgIn.below hx hb)
  have hBx : Blk ((w.alloc (.cells #[.slice A n c, .int .i64 st, .int .i64 cp] 28)).alloc (.cells #[.int .i64 4, .int .i64 out, .int .i64 arg, .slice A' n' c', .int .i64 at'] 64)) (w.heap.size + 1) 64 #[.int .i64 4, .int .i64 out, .int .i64 arg, .slice A' n' c', .int .i64 at'] := by
    have := Blk.new (w.alloc (.cells #[.slice A n c, .int .i64 st, .int .i64 cp] 28)) 64 #[.int .i64 4, .int .i64 out, .int .i64 arg, .slice A' n' c', .int .i64 at']
    simpa using this
  have HBx := Lib.hid hBx
  clear hBx
  have HB := Lib.hid hb
  have HF := Lib.hid hfin
  clear hfin hx hb t0 t1 t2 t3 t5 t6
  go_enter Tryd.func31, Tryd.ntmps31
  go_wp2_with (go_at_call 50; refine cR.mono ?_; rintro e w5 ⟨⟨b, rfl, hbR⟩, hb5⟩; have b5 := HBx.out.below hb5 HBx.out.lt; have e0 : w5.cell? ⟨w.heap.size + 1, 0, none⟩ = some (.int .i64 4) := b5.cell 0; have e3 : w5.cell? ⟨w.heap.size + 1, 3, none⟩ = some (.slice A' n' c') := b5.cell 3; have e4 : w5.cell? ⟨w.heap.size + 1, 4, none⟩ = some (.int .i64 at') := b5.cell 4; have HB5 := Lib.hid (HB.out.trans (hb5.mono HB.out.size)); clear cR hbR hb5 b5)
  go_ret
  exact rightB_mk ⟨fun h => (by cases h), fun h => absurd h HF.out⟩ HB5.out
set_option maxRecDepth 20000 in
set_option maxHeartbeats 1000000 in
theorem inst_4_7 {w : World} {A A' : Option Addr} {n c n' c' : Nat} {st cp out arg at' : Int} {set : List Rg} (hx : RgIn w A' n' c' set) (hn : n ≤ maxLen) (t0 : 0 ≤ out) (t1 : out < (n : Int)) (t2 : 2 ≤ arg) (t3 : arg < cp) (t5 : n' = 0) (t6 : at' = 0) :
    Calls Tryd.prog 31 #[.agg #[.slice A n c, .int .i64 st, .int .i64 cp], .agg #[.int .i64 4, .int .i64 out, .int .i64 arg, .slice A' n' c', .int .i64 at']] w (RightB n cp ⟨4, out, arg, A', n', c', at', set⟩ w) := by
  have hfin : InstOK n cp ⟨4, out, arg, A', n', c', at', set⟩ := .inr (.inr (.inr (.inl ⟨rfl, t0, t1, t2, t3, t5, t6⟩)))
  have hb : Below w.heap.size w ((w.alloc (.cells #[.slice A n c, .int .i64 st, .int .i64 cp] 28)).alloc (.cells #[.int .i64 4, .int .i64 out, .int .i64 arg, .slice A' n' c', .int .i64 at'] 64)) := ((Below.refl _ _).alloc (Nat.le_refl _) _).alloc (by simp) _
  have hnm : (n : Int) ≤ 9223372036854775807 := by unfold maxLen at hn; omega
  have hnx : (n' : Int) ≤ 9223372036854775807 := by have h1 := hx.max; have h2 := hx.le; unfold maxLen at h1; omega
  have d0 : decide (out < 0) = false := decide_eq_false (by omega)
  have d1 : decide ((n : Int) ≤ out) = false := decide_eq_false (by omega)
  have d2 : decide (arg < 2) = false := decide_eq_false (by omega)
  have d3 : decide (cp ≤ arg) = false := decide_eq_false (by omega)
  have d5 : decide (0 < n') = false := decide_eq_false (by omega)
  have d5b : decide ((0 : Int) < (n' : Int)) = false := decide_eq_false (by omega)
  have d6 : (at' == 0) = true := beq_iff_eq.2 (by omega)
  have d6b : (at' != 0) = false := by rw [bne_eq_false_iff_eq]; omega
  have cR := refRight_any (RgIn.below hx hb)
  have hBx : Blk ((w.alloc (.cells #[.slice A n c, .int .i64 st, .int .i64 cp] 28)).alloc (.cells #[.int .i64 4, .int .i64 out, .int .i64 arg, .slice A' n' c', .int .i64 at'] 64)) (w.heap.size + 1) 64 #[.int .i64 4, .int .i64 out, .int .i64 arg, .slice A' n' c', .int .i64 at'] := by
    have := Blk.new (w.alloc (.cells #[.slice A n c, .int .i64 st, .int .i64 cp] 28)) 64 #[.int .i64 4, .int .i64 out, .int .i64 arg, .slice A' n' c', .int .i64 at']
    simpa using this
  have HBx := Lib.hid hBx
  clear hBx
  have HB := Lib.hid hb
  have HF := Lib.hid hfin
  clear hfin hx hb t0 t1 t2 t3 t5 t6
  go_enter Tryd.func31, Tryd.ntmps31
  go_wp2_with (go_at_call 50; refine cR.mono ?_; rintro e w5 ⟨⟨b, rfl, hbR⟩, hb5⟩; have b5 := HBx.out.below hb5 HBx.out.lt; have e0 : w5.cell? ⟨w.heap.size + 1, 0, none⟩ = some (.int .i64 4) := b5.cell 0; have e3 : w5.cell? ⟨w.heap.size + 1, 3, none⟩ = some (.slice A' n' c') := b5.cell 3; have e4 : w5.cell? ⟨w.heap.size + 1, 4, none⟩ = some (.int .i64 at') := b5.cell 4; have HB5 := Lib.hid (HB.out.trans (hb5.mono HB.out.size)); clear cR hbR hb5 b5)
  go_ret
  exact rightB_mk ⟨fun _ => HF.out, fun _ => rfl⟩ HB5.out
set_option maxRecDepth 20000 in
set_option maxHeartbeats 1000000 in
theorem inst_5_0 {w : World} {A A' : Option Addr} {n c n' c' : Nat} {st cp out arg at' : Int} {set : List Rg} (hx : RgIn w A' n' c' set) (hn : n ≤ maxLen) (t0 : ¬ 0 ≤ out) :
    Calls Tryd.prog 31 #[.agg #[.slice A n c, .int .i64 st, .int .i64 cp], .agg #[.int .i64 5, .int .i64 out, .int .i64 arg, .slice A' n' c', .int .i64 at']] w (RightB n cp ⟨5, out, arg, A', n', c', at', set⟩ w) := by
  have hfin : ¬ InstOK n cp ⟨5, out, arg, A', n', c', at', set⟩ := by
    rintro (⟨h1, h2, h3, h4, h5⟩ | ⟨h1, h2, h3, h4, h5, h6, h7⟩ | ⟨h1, h2, h3, h4, h5, h6, h7⟩ | ⟨h1, h2, h3, h4, h5, h6, h7⟩ | ⟨h1, h2, h3, h4, h5, h6⟩)
    all_goals simp only at *
    all_goals omega
  have hb : Below w.heap.size w ((w.alloc (.cells #[.slice A n c, .int .i64 st, .int .i64 cp] 28)).alloc (.cells #[.int .i64 5, .int .i64 out, .int .i64 arg, .slice A' n' c', .int .i64 at'] 64)) := ((Below.refl _ _).alloc (Nat.le_refl _) _).alloc (by simp) _
  have hnm : (n : Int) ≤ 9223372036854775807 := by unfold maxLen at hn; omega
  have hnx : (n' : Int) ≤ 9223372036854775807 := by have h1 := hx.max; have h2 := hx.le; unfold maxLen at h1; omega
  have d0 : decide (out < 0) = true := decide_eq_true (by omega)
  have HB := Lib.hid hb
  have HF := Lib.hid hfin
  clear hfin hx hb t0
  go_enter Tryd.func31, Tryd.ntmps31
  go_wp2_with fail
  go_ret
  exact rightB_mk ⟨fun h => (by cases h), fun h => absurd h HF.out⟩ HB.out
set_option maxRecDepth 20000 in
set_option maxHeartbeats 1000000 in
theorem inst_5_1 {w : World} {A A' : Option Addr} {n c n' c' : Nat} {st cp out arg at' : Int} {set : List Rg} (hx : RgIn w A' n' c' set) (hn : n ≤ maxLen) (t0 : 0 ≤ out) (t1 : ¬ out < (n : Int)) :
    Calls Tryd.prog 31 #[.agg #[.slice A n c, .int .i64 st, .int .i64 cp], .agg #[.int .i64 5, .int .i64 out, .int .i64 arg, .slice A' n' c', .int .i64 at']] w (RightB n cp ⟨5, out, arg, A', n', c', at', set⟩ w) := by
  have hfin : ¬ InstOK n cp ⟨5, out, arg, A', n', c', at', set⟩ := by
    rintro (⟨h1, h2, h3, h4, h5⟩ | ⟨h1, h2, h3, h4, h5, h6, h7⟩ | ⟨h1, h2, h3, h4, h5, h6, h7⟩ | ⟨h1, h2, h3, h4, h5, h6, h7⟩ | ⟨h1, h2, h3, h4, h5, h6⟩)
    all_goals simp only at *
    all_goals omega
  have hb : Below w.heap.size w ((w.alloc (.cells #[.slice A n c, .int .i64 st, .int .i64 cp] 28)).alloc (.cells #[.int .i64 5, .int .i64 out, .int .i64 arg, .slice A' n' c', .int .i64 at'] 64)) := ((Below.refl _ _).alloc (Nat.le_refl _) _).alloc (by simp) _
  have hnm : (n : Int) ≤ 9223372036854775807 := by unfold maxLen at hn; omega
  have hnx : (n' : Int) ≤ 9223372036854775807 := by have h1 := hx.max; have h2 := hx.le; unfold maxLen at h1; omega
  have d0 : decide (out < 0) = false := decide_eq_false (by omega)
  have d1 : decide ((n : Int) ≤ out) = true := decide_eq_true (by omega)
  have HB := Lib.hid hb
  have HF := Lib.hid hfin
  clear hfin hx hb t0 t1
  go_enter Tryd.func31, Tryd.ntmps31
  go_wp2_with fail
  go_ret
  exact rightB_mk ⟨fun h => (by cases h), fun h => absurd h HF.out⟩ HB.out
set_option maxRecDepth 20000 in
set_option maxHeartbeats 1000000 in
theorem inst_5_2 {w : World} {A A' : Option Addr} {n c n' c' : Nat} {st cp out arg at' : Int} {set : List Rg} (hx : RgIn w A' n' c' set) (hn : n ≤ maxLen) (t0 : 0 ≤ out) (t1 : out < (n : Int)) (t2 : ¬ arg = 0) :
    Calls Tryd.prog 31 #[.agg #[.slice A n c, .int .i64 st, .int .i64 cp], .agg #[.int .i64 5, .int .i64 out, .int .i64 arg, .slice A' n' c', .int .i64 at']] w (RightB n cp ⟨5, out, arg, A', n', c', at', set⟩ w) := by
  have hfin : ¬ InstOK n cp ⟨5, out, arg, A', n', c', at', set⟩ := by
    rintro (⟨h1, h2, h3, h4, h5⟩ | ⟨h1, h2, h3, h4, h5, h6, h7⟩ | ⟨h1, h2, h3, h4, h5, h6, h7⟩ | ⟨h1, h2, h3, h4, h5, h6, h7⟩ | ⟨h1, h2, h3, h4, h5, h6⟩)
    all_goals simp only at *
    all_goals omega
  have hb : Below w.heap.size w ((w.alloc (.cells #[.slice A n c, .int .i64 st, .int .i64 cp] 28)).alloc (.cells #[.int .i64 5, .int .i64 out, .int .i64 arg, .slice A' n' c', .int .i64 at'] 64)) := ((Below.refl _ _).alloc (Nat.le_refl _) _).alloc (by simp) _
  have hnm : (n : Int) ≤ 9223372036854775807 := by unfold maxLen at hn; omega
  have hnx : (n' : Int) ≤ 9223372036854775807 := by have h1 := hx.max; have h2 := hx.le; unfold maxLen at h1; omega
  have d0 : decide (out < 0) = false := decide_eq_false (by omega)
  have d1 : decide ((n : Int) ≤ out) = false := decide_eq_false (by omega)
  have d2 : (arg != 0) = true := by rw [bne_iff_ne]; omega
  have d2b : (arg == 0) = false := beq_eq_false_iff_ne.2 (by omega)
  have HB := Lib.hid hb
  have HF := Lib.hid hfin
  clear hfin hx hb t0 t1 t2
  go_enter Tryd.func31, Tryd.ntmps31
  go_wp2_with fail
  go_ret
  exact rightB_mk ⟨fun h => (by cases h), fun h => absurd h HF.out⟩ HB.out
set_option maxRecDepth 20000 in
set_option maxHeartbeats 1000000 in
theorem inst_5_4 {w : World} {A A' : Option Addr} {n c n' c' : Nat} {st cp out arg at' : Int} {set : List Rg} (hx : RgIn w A' n' c' set) (hn : n ≤ maxLen) (t0 : 0 ≤ out) (t1 : out < (n : Int)) (t2 : arg = 0) (t4 : ¬ n' = 0) :
    Calls Tryd.prog 31 #[.agg #[.slice A n c, .int .i64 st, .int .i64 cp], .agg #[.int .i64 5, .int .i64 out, .int .i64 arg, .slice A' n' c', .int .i64 at']] w (RightB n cp ⟨5, out, arg, A', n', c', at', set⟩ w) := by
  have hfin : ¬ InstOK n cp ⟨5, out, arg, A', n', c', at', set⟩ := by
    rintro (⟨h1, h2, h3, h4, h5⟩ | ⟨h1, h2, h3, h4, h5, h6, h7⟩ | ⟨h1, h2, h3, h4, h5, h6, h7⟩ | ⟨h1, h2, h3, h4, h5, h6, h7⟩ | ⟨h1, h2, h3, h4, h5, h6⟩)
    all_goals simp only at *
    all_goals omega
  have hb : Below w.heap.size w ((w.alloc (.cells #[.slice A n c, .int .i64 st, .int .i64 cp] 28)).alloc (.cells #[.int .i64 5, .int .i64 out, .int .i64 arg, .slice A' n' c', .int .i64 at'] 64)) := ((Below.refl _ _).alloc (Nat.le_refl _) _).alloc (by simp) _
  have hnm : (n : Int) ≤ 9223372036854775807 := by unfold maxLen at hn; omega
  have hnx : (n' : Int) ≤ 9223372036854775807 := by have h1 := hx.max; have h2 := hx.le; unfold maxLen at h1; omega
  have d0 : decide (out < 0) = false := decide_eq_false (by omega)
  have d1 : decide ((n : Int) ≤ out) = false := decide_eq_false (by omega)
  have d2 : (arg != 0) = false := by rw [bne_eq_false_iff_eq]; omega
  have d2b : (arg == 0) = true := beq_iff_eq.2 (by omega)
  have d4 : decide (0 < n') = true := decide_eq_true (by omega)
  have d4b : decide ((0 : Int) < (n' : Int)) = true := decide_eq_true (by omega)
  have cR := refRight_any (RgIn.below hx hb)
  have hBx : Blk ((w.alloc (.cells #[.slice A n c, .int .i64 st, .int .i64 cp] 28)).alloc (.cells #[.int .i64 5, .int .i64 out, .int .i64 arg, .slice A' n' c', .int .i64 at'] 64)) (w.heap.size + 1) 64 #[.int .i64 5, .int .i64 out, .int .i64 arg, .slice A' n' c', .int .i64 at'] := by
    have := Blk.new (w.alloc (.cells #[.slice A n c, .int .i64 st, .int .i64 cp] 28)) 64 #[.int .i64 5, .int .i64 out, .int .i64 arg, .slice A' n' c', .int .i64 at']
    simpa using this
  have HBx := Lib.hid hBx
  clear hBx
  have HB := Lib.hid hb
  have HF := Lib.hid hfin
  clear hfin hx hb t0 t1 t2 t4
  go_enter Tryd.func31, Tryd.ntmps31
  go_wp2_with (go_at_call 50; refine cR.mono ?_; rintro e w5 ⟨⟨b, rfl, hbR⟩, hb5⟩; have b5 := HBx.out.below hb5 HBx.out.lt; have e0 : w5.cell? ⟨w.heap.size + 1, 0, none⟩ = some (.int .i64 5) := b5.cell 0; have e3 : w5.cell? ⟨w.heap.size + 1, 3, none⟩ = some (.slice A' n' c') := b5.cell 3; have e4 : w5.cell? ⟨w.heap.size + 1, 4, none⟩ = some (.int .i64 at') := b5.cell 4; have HB5 := Lib.hid (HB.out.trans (hb5.mono HB.out.size)); clear cR hbR hb5 b5)
  go_ret
  exact rightB_mk ⟨fun h => (by cases h), fun h => absurd h HF.out⟩ HB5.out
set_option maxRecDepth 20000 in
set_option maxHeartbeats 1000000 in
theorem inst_5_5_1 {w : World} {A A' : Option Addr} {n c n' c' : Nat} {st cp out arg  : Int} {set : List Rg} (hx : RgIn w A' n' c' set) (hn : n ≤ maxLen) (t0 : 0 ≤ out) (t1 : out < (n : Int)) (t2 : arg = 0) (t4 : n' = 0) :
    Calls Tryd.prog 31 #[.agg #[.slice A n c, .int .i64 st, .int .i64 cp], .agg #[.int .i64 5, .int .i64 out, .int .i64 arg, .slice A' n' c', .int .i64 1]] w (RightB n cp ⟨5, out, arg, A', n', c', 1, set⟩ w) := by
  have hfin : InstOK n cp ⟨5, out, arg, A', n', c', 1, set⟩ := .inr (.inr (.inr (.inr ⟨rfl, t0, t1, t2, t4, .inl rfl⟩)))
  have hb : Below w.heap.size w ((w.alloc (.cells #[.slice A n c, .int .i64 st, .int .i64 cp] 28)).alloc (.cells #[.int .i64 5, .int .i64 out, .int .i64 arg, .slice A' n' c', .int .i64 1] 64)) := ((Below.refl _ _).alloc (Nat.le_refl _) _).alloc (by simp) _
  have hnm : (n : Int) ≤ 9223372036854775807 := by unfold maxLen at hn; omega
  have hnx : (n' : Int) ≤ 9223372036854775807 := by have h1 := hx.max; have h2 := hx.le; unfold maxLen at h1; omega
  have d0 : decide (out < 0) = false := decide_eq_false (by omega)
  have d1 : decide ((n : Int) ≤ out) = false := decide_eq_false (by omega)
  have d2 : (arg != 0) = false := by rw [bne_eq_false_iff_eq]; omega
  have d2b : (arg == 0) = true := beq_iff_eq.2 (by omega)
  have d4 : decide (0 < n') = false := decide_eq_false (by omega)
  have d4b : decide ((0 : Int) < (n' : Int)) = false := decide_eq_false (by omega)
  have cR := refRight_any (RgIn.below hx hb)
  have hBx : Blk ((w.alloc (.cells #[.slice A n c, .int .i64 st, .int .i64 cp] 28)).alloc (.cells #[.int .i64 5, .int .i64 out, .int .i64 arg, .slice A' n' c', .int .i64 1] 64)) (w.heap.size + 1) 64 #[.int .i64 5, .int .i64 out, .int .i64 arg, .slice A' n' c', .int .i64 1] := by
    have := Blk.new (w.alloc (.cells #[.slice A n c, .int .i64 st, .int .i64 cp] 28)) 64 #[.int .i64 5, .int .i64 out, .int .i64 arg, .slice A' n' c', .int .i64 1]
    simpa using this
  have HBx := Lib.hid hBx
  clear hBx
  have HB := Lib.hid hb
  have HF := Lib.hid hfin
  clear hfin hx hb t0 t1 t2 t4
  go_enter Tryd.func31, Tryd.ntmps31
  go_wp2_with (go_at_call 50; refine cR.mono ?_; rintro e w5 ⟨⟨b, rfl, hbR⟩, hb5⟩; have b5 := HBx.out.below hb5 HBx.out.lt; have e0 : w5.cell? ⟨w.heap.size + 1, 0, none⟩ = some (.int .i64 5) := b5.cell 0; have e3 : w5.cell? ⟨w.heap.size + 1, 3, none⟩ = some (.slice A' n' c') := b5.cell 3; have e4 : w5.cell? ⟨w.heap.size + 1, 4, none⟩ = some (.int .i64 1) := b5.cell 4; have HB5 := Lib.hid (HB.out.trans (hb5.mono HB.out.size)); clear cR hbR hb5 b5)
  go_ret
  exact rightB_mk ⟨fun _ => HF.out, fun _ => rfl⟩ HB5.out
set_option maxRecDepth 20000 in
set_option maxHeartbeats 1000000 in
theorem inst_5_5_2 {w : World} {A A' : Option Addr} {n c n' c' : Nat} {st cp out arg  : Int} {set : List Rg} (hx : RgIn w A' n' c' set) (hn : n ≤ maxLen) (t0 : 0 ≤ out) (t1 : out < (n : Int)) (t2 : arg = 0) (t4 : n' = 0) :
    Calls Tryd.prog 31 #[.agg #[.slice A n c, .int .i64 st, .int .i64 cp], .agg #[.int .i64 5, .int .i64 out, .int .i64 arg, .slice A' n' c', .int .i64 2]] w (RightB n cp ⟨5, out, arg, A', n', c', 2, set⟩ w) := by
  have hfin : InstOK n cp ⟨5, out, arg, A', n', c', 2, set⟩ := .inr (.inr (.inr (.inr ⟨rfl, t0, t1, t2, t4, .inr (.inl rfl)⟩)))
  have hb : Below w.heap.size w ((w.alloc (.cells #[.slice A n c, .int .i64 st, .int .i64 cp] 28)).alloc (.cells #[.int .i64 5, .int .i64 out, .int .i64 arg, .slice A' n' c', .int .i64 2] 64)) := ((Below.refl _ _).alloc (Nat.le_refl _) _).alloc (by simp) _
  have hnm : (n : Int) ≤ 9223372036854775807 := by unfold maxLen at hn; omega
  have hnx : (n' : Int) ≤ 9223372036854775807 := by have h1 := hx.max; have h2 := hx.le; unfold maxLen at h1; omega
  have d0 : decide (out < 0) = false := decide_eq_false (by omega)
  have d1 : decide ((n : Int) ≤ out) = false := decide_eq_false (by omega)
  have d2 : (arg != 0) = false := by rw [bne_eq_false_iff_eq]; omega
  have d2b : (arg == 0) = true := beq_iff_eq.2 (by omega)
  have d4 : decide (0 < n') = false := decide_eq_false (by omega)
  have d4b : decide ((0 : Int) < (n' : Int)) = false := decide_eq_false (by omega)
  have cR := refRight_any (RgIn.below hx hb)
  have hBx : Blk ((w.alloc (.cells #[.slice A n c, .int .i64 st, .int .i64 cp] 28)).alloc (.cells #[.int .i64 5, .int .i64 out, .int .i64 arg, .slice A' n' c', .int .i64 2] 64)) (w.heap.size + 1) 64 #[.int .i64 5, .int .i64 out, .int .i64 arg, .slice A' n' c', .int .i64 2] := by
    have := Blk.new (w.alloc (.cells #[.slice A n c, .int .i64 st, .int .i64 cp] 28)) 64 #[.int .i64 5, .int .i64 out, .int .i64 arg, .slice A' n' c', .int .i64 2]
    simpa using this
  have HBx := Lib.hid hBx
  clear hBx
  have HB := Lib.hid hb
  have HF := Lib.hid hfin
  clear hfin hx hb t0 t1 t2 t4
  go_enter Tryd.func31, Tryd.ntmps31
  go_wp2_with (go_at_call 50; refine cR.mono ?_; rintro e w5 ⟨⟨b, rfl, hbR⟩, hb5⟩; have b5 := HBx.out.below hb5 HBx.out.lt; have e0 : w5.cell? ⟨w.heap.size + 1, 0, none⟩ = some (.int .i64 5) := b5.cell 0; have e3 : w5.cell? ⟨w.heap.size + 1, 3, none⟩ = some (.slice A' n' c') := b5.cell 3; have e4 : w5.cell? ⟨w.heap.size + 1, 4, none⟩ = some (.int .i64 2) := b5.cell 4; have HB5 := Lib.hid (HB.out.trans (hb5.mono HB.out.size)); clear cR hbR hb5 b5)
  go_ret
  exact rightB_mk ⟨fun _ => HF.out, fun _ => rfl⟩ HB5.out
set_option maxRecDepth 20000 in
set_option maxHeartbeats 1000000 in
theorem inst_5_5_4 {w : World} {A A' : Option Addr} {n c n' c' : Nat} {st cp out arg  : Int} {set : List Rg} (hx : RgIn w A' n' c' set) (hn : n ≤ maxLen) (t0 : 0 ≤ out) (t1 : out < (n : Int)) (t2 : arg = 0) (t4 : n' = 0) :
    Calls Tryd.prog 31 #[.agg #[.slice A n c, .int .i64 st, .int .i64 cp], .agg #[.int .i64 5, .int .i64 out, .int .i64 arg, .slice A' n' c', .int .i64 4]] w (RightB n cp ⟨5, out, arg, A', n', c', 4, set⟩ w) := by
  have hfin : InstOK n cp ⟨5, out, arg, A', n', c', 4, set⟩ := .inr (.inr (.inr (.inr ⟨rfl, t0, t1, t2, t4, .inr (.inr (.inl rfl))⟩)))
  have hb : Below w.heap.size w ((w.alloc (.cells #[.slice A n c, .int .i64 st, .int .i64 cp] 28)).alloc (.cells #[.int .i64 5, .int .i64 out, .int .i64 arg, .slice A' n' c', .int .i64 4] 64)) := ((Below.refl _ _).alloc (Nat.le_refl _) _).alloc (by simp) _
  have hnm : (n : Int) ≤ 9223372036854775807 := by unfold maxLen at hn; omega
  have hnx : (n' : Int) ≤ 9223372036854775807 := by have h1 := hx.max; have h2 := hx.le; unfold maxLen at h1; omega
  have d0 : decide (out < 0) = false := decide_eq_false (by omega)
  have d1 : decide ((n : Int) ≤ out) = false := decide_eq_false (by omega)
  have d2 : (arg != 0) = false := by rw [bne_eq_false_iff_eq]; omega
  have d2b : (arg == 0) = true := beq_iff_eq.2 (by omega)
  have d4 : decide (0 < n') = false := decide_eq_false (by omega)
  have d4b : decide ((0 : Int) < (n' : Int)) = false := decide_eq_false (by omega)
  have cR := refRight_any (RgIn.below hx hb)
  have hBx : Blk ((w.alloc (.cells #[.slice A n c, .int .i64 st, .int .i64 cp] 28)).alloc (.cells #[.int .i64 5, .int .i64 out, .int .i64 arg, .slice A' n' c', .int .i64 4] 64)) (w.heap.size + 1) 64 #[.int .i64 5, .int .i64 out, .int .i64 arg, .slice A' n' c', .int .i64 4] := by
    have := Blk.new (w.alloc (.cells #[.slice A n c, .int .i64 st, .int .i64 cp] 28)) 64 #[.int .i64 5, .int .i64 out, .int .i64 arg, .slice A' n' c', .int .i64 4]
    simpa using this
  have HBx := Lib.hid hBx
  clear hBx
  have HB := Lib.hid hb
  have HF := Lib.hid hfin
  clear hfin hx hb t0 t1 t2 t4
  go_enter Tryd.func31, Tryd.ntmps31
  go_wp2_with (go_at_call 50; refine cR.mono ?_; rintro e w5 ⟨⟨b, rfl, hbR⟩, hb5⟩; have b5 := HBx.out.below hb5 HBx.out.lt; have e0 : w5.cell? ⟨w.heap.size + 1, 0, none⟩ = some (.int .i64 5) := b5.cell 0; have e3 : w5.cell? ⟨w.heap.size + 1, 3, none⟩ = some (.slice A' n' c') := b5.cell 3; have e4 : w5.cell? ⟨w.heap.size + 1, 4, none⟩ = some (.int .i64 4) := b5.cell 4; have HB5 := Lib.hid (HB.out.trans (hb5.mono HB.out.size)); clear cR hbR hb5 b5)
  go_ret
  exact rightB_mk ⟨fun _ => HF.out, fun _ => rfl⟩ HB5.out
set_option maxRecDepth 20000 in
set_option maxHeartbeats 1000000 in
theorem inst_5_5_8 {w : World} {A A' : Option Addr} {n c n' c' : Nat} {st cp out arg  : Int} {set : List Rg} (hx : RgIn w A' n' c' set) (hn : n ≤ maxLen) (t0 : 0 ≤ out) (t1 : out < (n : Int)) (t2 : arg = 0) (t4 : n' = 0) :
    Calls Tryd.prog 31 #[.agg #[.slice A n c, .int .i64 st, .int .i64 cp], .agg #[.int .i64 5, .int .i64 out, .int .i64 arg, .slice A' n' c', .int .i64 8]] w (RightB n cp ⟨5, out, arg, A', n', c', 8, set⟩ w) := by
  have hfin : InstOK n cp ⟨5, out, arg, A', n', c', 8, set⟩ := .inr (.inr (.inr (.inr ⟨rfl, t0, t1, t2, t4, .inr (.inr (.inr (.inl rfl)))⟩)))
  have hb : Below w.heap.size w ((w.alloc (.cells #[.slice A n c, .int .i64 st, .int .i64 cp] 28)).alloc (.cells #[.int .i64 5, .int .i64 out, .int .i64 arg, .slice A' n' c', .int .i64 8] 64)) := ((Below.refl _ _).alloc (Nat.le_refl _) _).alloc (by simp) _
  have hnm : (n : Int) ≤ 9223372036854775807 := by unfold maxLen at hn; omega
  have hnx : (n' : Int) ≤ 9223372036854775807 := by have h1 := hx.max; have h2 := hx.le; unfold maxLen at h1; omega
  have d0 : decide (out < 0) = false := decide_eq_false (by omega)
  have d1 : decide ((n : Int) ≤ out) = false := decide_eq_false (by omega)
  have d2 : (arg != 0) = false := by rw [bne_eq_false_iff_eq]; omega
  have d2b : (arg == 0) = true := beq_iff_eq.2 (by omega)
  have d4 : decide (0 < n') = false := decide_eq_false (by omega)
  have d4b : decide ((0 : Int) < (n' : Int)) = false := decide_eq_false (by omega)
  have cR := refRight_any (RgIn.below hx hb)
  have hBx : Blk ((w.alloc (.cells #[.slice A n c, .int .i64 st, .int .i64 cp] 28)).alloc (.cells #[.int .i64 5, .int .i64 out, .int .i64 arg, .slice A' n' c', .int .i64 8] 64)) (w.heap.size + 1) 64 #[.int .i64 5, .int .i64 out, .int .i64 arg, .slice A' n' c', .int .i64 8] := by
    have := Blk.new (w.alloc (.cells #[.slice A n c, .int .i64 st, .int .i64 cp] 28)) 64 #[.int .i64 5, .int .i64 out, .int .i64 arg, .slice A' n' c', .int .i64 8]
    simpa using this
  have HBx := Lib.hid hBx
  clear hBx
  have HB := Lib.hid hb
  have HF := Lib.hid hfin
  clear hfin hx hb t0 t1 t2 t4
  go_enter Tryd.func31, Tryd.ntmps31
  go_wp2_with (go_at_call 50; refine cR.mono ?_; rintro e w5 ⟨⟨b, rfl, hbR⟩, hb5⟩; have b5 := HBx.out.below hb5 HBx.out.lt; have e0 : w5.cell? ⟨w.heap.size + 1, 0, none⟩ = some (.int .i64 5) := b5.cell 0; have e3 : w5.cell? ⟨w.heap.size + 1, 3, none⟩ = some (.slice A' n' c') := b5.cell 3; have e4 : w5.cell? ⟨w.heap.size + 1, 4, none⟩ = some (.int .i64 8) := b5.cell 4; have HB5 := Lib.hid (HB.out.trans (hb5.mono HB.out.size)); clear cR hbR hb5 b5)
  go_ret
  exact rightB_mk ⟨fun _ => HF.out, fun _ => rfl⟩ HB5.out
set_option maxRecDepth 20000 in
set_option maxHeartbeats 1000000 in
theorem inst_5_5_16 {w : World} {A A' : Option Addr} {n c n' c' : Nat} {st cp out arg  : Int} {set : List Rg} (hx : RgIn w A' n' c' set) (hn : n ≤ maxLen) (t0 : 0 ≤ out) (t1 : out < (n : Int)) (t2 : arg = 0) (t4 : n' = 0) :
    Calls Tryd.prog 31 #[.agg #[.slice A n c, .int .i64 st, .int .i64 cp], .agg #[.int .i64 5, .int .i64 out, .int .i64 arg, .slice A' n' c', .int .i64 16]] w (RightB n cp ⟨5, out, arg, A', n', c', 16, set⟩ w) := by
  have hfin : InstOK n cp ⟨5, out, arg, A', n', c', 16, set⟩ := .inr (.inr (.inr (.inr ⟨rfl, t0, t1, t2, t4, .inr (.inr (.inr (.inr (.inl rfl))))⟩)))
  have hb : Below w.heap.size w ((w.alloc (.cells #[.slice A n c, .int .i64 st, .int .i64 cp] 28)).alloc (.cells #[.int .i64 5, .int .i64 out, .int .i64 arg, .slice A' n' c', .int .i64 16] 64)) := ((Below.refl _ _).alloc (Nat.le_refl _) _).alloc (by simp) _
  have hnm : (n : Int) ≤ 9223372036854775807 := by unfold maxLen at hn; omega
  have hnx : (n' : Int) ≤ 9223372036854775807 := by have h1 := hx.max; have h2 := hx.le; unfold maxLen at h1; omega
  have d0 : decide (out < 0) = false := decide_eq_false (by omega)
  have d1 : decide ((n : Int) ≤ out) = false := decide_eq_false (by omega)
  have d2 : (arg != 0) = false := by rw [bne_eq_false_iff_eq]; omega
  have d2b : (arg == 0) = true := beq_iff_eq.2 (by omega)
  have d4 : decide (0 < n') = false := decide_eq_false (by omega)
  have d4b : decide ((0 : Int) < (n' : Int)) = false := decide_eq_false (by omega)
  have cR := refRight_any (RgIn.below hx hb)
  have hBx : Blk ((w.alloc (.cells #[.slice A n c, .int .i64 st, .int .i64 cp] 28)).alloc (.cells #[.int .i64 5, .int .i64 out, .int .i64 arg, .slice A' n' c', .int .i64 16] 64)) (w.heap.size + 1) 64 #[.int .i64 5, .int .i64 out, .int .i64 arg, .slice A' n' c', .int .i64 16] := by
    have := Blk.new (w.alloc (.cells #[.slice A n c, .int .i64 st, .int .i64 cp] 28)) 64 #[.int .i64 5, .int .i64 out, .int .i64 arg, .slice A' n' c', .int .i64 16]
    simpa using this
  have HBx := Lib.hid hBx
  clear hBx
  have HB := Lib.hid hb
  have HF := Lib.hid hfin
  clear hfin hx hb t0 t1 t2 t4
  go_enter Tryd.func31, Tryd.ntmps31
  go_wp2_with (go_at_call 50; refine cR.mono ?_; rintro e w5 ⟨⟨b, rfl, hbR⟩, hb5⟩; have b5 := HBx.out.below hb5 HBx.out.lt; have e0 : w5.cell? ⟨w.heap.size + 1, 0, none⟩ = some (.int .i64 5) := b5.cell 0; have e3 : w5.cell? ⟨w.heap.size + 1, 3, none⟩ = some (.slice A' n' c') := b5.cell 3; have e4 : w5.cell? ⟨w.heap.size + 1, 4, none⟩ = some (.int .i64 16) := b5.cell 4; have HB5 := Lib.hid (HB.out.trans (hb5.mono HB.out.size)); clear cR hbR hb5 b5)
  go_ret
  exact rightB_mk ⟨fun _ => HF.out, fun _ => rfl⟩ HB5.out
set_option maxRecDepth 20000 in
set_option maxHeartbeats 1000000 in
theorem inst_5_5_32 {w : World} {A A' : Option Addr} {n c n' c' : Nat} {st cp out arg  : Int} {set : List Rg} (hx : RgIn w A' n' c' set) (hn : n ≤ maxLen) (t0 : 0 ≤ out) (t1 : out < (n : Int)) (t2 : arg = 0) (t4 : n' = 0) :
    Calls Tryd.prog 31 #[.agg #[.slice A n c, .int .i64 st, .int .i64 cp], .agg #[.int .i64 5, .int .i64 out, .int .i64 arg, .slice A' n' c', .int .i64 32]] w (RightB n cp ⟨5, out, arg, A', n', c', 32, set⟩ w) := by
  have hfin : InstOK n cp ⟨5, out, arg, A', n', c', 32, set⟩ := .inr (.inr (.inr (.inr ⟨rfl, t0, t1, t2, t4, .inr (.inr (.inr (.inr (.inr rfl))))⟩)))
  have hb : Below w.heap.size w ((w.alloc (.cells #[.slice A n c, .int .i64 st, .int .i64 cp] 28)).alloc (.cells #[.int .i64 5, .int .i64 out, .int .i64 arg, .slice A' n' c', .int .i64 32] 64)) := ((Below.refl _ _).alloc (Nat.le_refl _) _).alloc (by simp) _
  have hnm : (n : Int) ≤ 9223372036854775807 := by unfold maxLen at hn; omega
  have hnx : (n' : Int) ≤ 9223372036854775807 := by have h1 := hx.max; have h2 := hx.le; unfold maxLen at h1; omega
  have d0 : decide (out < 0) = false := decide_eq_false (by omega)
  have d1 : decide ((n : Int) ≤ out) = false := decide_eq_false (by omega)
  have d2 : (arg != 0) = false := by rw [bne_eq_false_iff_eq]; omega
  have d2b : (arg == 0) = true := beq_iff_eq.2 (by omega)
  have d4 : decide (0 < n') = false := decide_eq_false (by omega)
  have d4b : decide ((0 : Int) < (n' : Int)) = false := decide_eq_false (by omega)
  have cR := refRight_any (RgIn.below hx hb)
  have hBx : Blk ((w.alloc (.cells #[.slice A n c, .int .i64 st, .int .i64 cp] 28)).alloc (.cells #[.int .i64 5, .int .i64 out, .int .i64 arg, .slice A' n' c', .int .i64 32] 64)) (w.heap.size + 1) 64 #[.int .i64 5, .int .i64 out, .int .i64 arg, .slice A' n' c', .int .i64 32] := by
    have := Blk.new (w.alloc (.cells #[.slice A n c, .int .i64 st, .int .i64 cp] 28)) 64 #[.int .i64 5, .int .i64 out, .int .i64 arg, .slice A' n' c', .int .i64 32]
    simpa using this
  have HBx := Lib.hid hBx
  clear hBx
  have HB := Lib.hid hb
  have HF := Lib.hid hfin
  clear hfin hx hb t0 t1 t2 t4
  go_enter Tryd.func31, Tryd.ntmps31
  go_wp2_with (go_at_call 50; refine cR.mono ?_; rintro e w5 ⟨⟨b, rfl, hbR⟩, hb5⟩; have b5 := HBx.out.below hb5 HBx.out.lt; have e0 : w5.cell? ⟨w.heap.size + 1, 0, none⟩ = some (.int .i64 5) := b5.cell 0; have e3 : w5.cell? ⟨w.heap.size + 1, 3, none⟩ = some (.slice A' n' c') := b5.cell 3; have e4 : w5.cell? ⟨w.heap.size + 1, 4, none⟩ = some (.int .i64 32) := b5.cell 4; have HB5 := Lib.hid (HB.out.trans (hb5.mono HB.out.size)); clear cR hbR hb5 b5)
  go_ret
  exact rightB_mk ⟨fun _ => HF.out, fun _ => rfl⟩ HB5.out
set_option maxRecDepth 20000 in
set_option maxHeartbeats 1000000 in
theorem inst_5_5_n {w : World} {A A' : Option Addr} {n c n' c' : Nat} {st cp out arg at' : Int} {set : List Rg} (hx : RgIn w A' n' c' set) (hn : n ≤ maxLen) (t0 : 0 ≤ out) (t1 : out < (n : Int)) (t2 : arg = 0) (t4 : n' = 0) (ta : ¬ at' ∈ AtL) :
    Calls Tryd.prog 31 #[.agg #[.slice A n c, .int .i64 st, .int .i64 cp], .agg #[.int .i64 5, .int .i64 out, .int .i64 arg, .slice A' n' c', .int .i64 at']] w (RightB n cp ⟨5, out, arg, A', n', c', at', set⟩ w) := by
  have hfin : ¬ InstOK n cp ⟨5, out, arg, A', n', c', at', set⟩ := by
    rw [atL_iff] at ta
    rintro (⟨h1, h2, h3, h4, h5⟩ | ⟨h1, h2, h3, h4, h5, h6, h7⟩ | ⟨h1, h2, h3, h4, h5, h6, h7⟩ | ⟨h1, h2, h3, h4, h5, h6, h7⟩ | ⟨h1, h2, h3, h4, h5, h6⟩)
    all_goals simp only at *
    all_goals omega
  have hb : Below w.heap.size w ((w.alloc (.cells #[.slice A n c, .int .i64 st, .int .i64 cp] 28)).alloc (.cells #[.int .i64 5, .int .i64 out, .int .i64 arg, .slice A' n' c', .int .i64 at'] 64)) := ((Below.refl _ _).alloc (Nat.le_refl _) _).alloc (by simp) _
  have hnm : (n : Int) ≤ 9223372036854775807 := by unfold maxLen at hn; omega
  have hnx : (n' : Int) ≤ 9223372036854775807 := by have h1 := hx.max; have h2 := hx.le; unfold maxLen at h1; omega
  have d0 : decide (out < 0) = false := decide_eq_false (by omega)
  have d1 : decide ((n : Int) ≤ out) = false := decide_eq_false (by omega)
  have d2 : (arg != 0) = false := by rw [bne_eq_false_iff_eq]; omega
  have d2b : (arg == 0) = true := beq_iff_eq.2 (by omega)
  have d4 : decide (0 < n') = false := decide_eq_false (by omega)
  have d4b : decide ((0 : Int) < (n' : Int)) = false := decide_eq_false (by omega)
  have da1 : (at' == 1) = false := beq_eq_false_iff_ne.2 (fun h => ta (by rw [h]; simp [AtL]))
  have da2 : (at' == 2) = false := beq_eq_false_iff_ne.2 (fun h => ta (by rw [h]; simp [AtL]))
  have da4 : (at' == 4) = false := beq_eq_false_iff_ne.2 (fun h => ta (by rw [h]; simp [AtL]))
  have da8 : (at' == 8) = false := beq_eq_false_iff_ne.2 (fun h => ta (by rw [h]; simp [AtL]))
  have da16 : (at' == 16) = false := beq_eq_false_iff_ne.2 (fun h => ta (by rw [h]; simp [AtL]))
  have da32 : (at' == 32) = false := beq_eq_false_iff_ne.2 (fun h => ta (by rw [h]; simp [AtL]))
  have cR := refRight_any (RgIn.below hx hb)
  have hBx : Blk ((w.alloc (.cells #[.slice A n c, .int .i64 st, .int .i64 cp] 28)).alloc (.cells #[.int .i64 5, .int .i64 out, .int .i64 arg, .slice A' n' c', .int .i64 at'] 64)) (w.heap.size + 1) 64 #[.int .i64 5, .int .i64 out, .int .i64 arg, .slice A' n' c', .int .i64 at'] := by
    have := Blk.new (w.alloc (.cells #[.slice A n c, .int .i64 st, .int .i64 cp] 28)) 64 #[.int .i64 5, .int .i64 out, .int .i64 arg, .slice A' n' c', .int .i64 at']
    simpa using this
  have HBx := Lib.hid hBx
  clear hBx
  have HB := Lib.hid hb
  have HF := Lib.hid hfin
  clear hfin hx hb t0 t1 t2 t4 ta
  go_enter Tryd.func31, Tryd.ntmps31
  go_wp2_with (go_at_call 50; refine cR.mono ?_; rintro e w5 ⟨⟨b, rfl, hbR⟩, hb5⟩; have b5 := HBx.out.below hb5 HBx.out.lt; have e0 : w5.cell? ⟨w.heap.size + 1, 0, none⟩ = some (.int .i64 5) := b5.cell 0; have e3 : w5.cell? ⟨w.heap.size + 1, 3, none⟩ = some (.slice A' n' c') := b5.cell 3; have e4 : w5.cell? ⟨w.heap.size + 1, 4, none⟩ = some (.int .i64 at') := b5.cell 4; have HB5 := Lib.hid (HB.out.trans (hb5.mono HB.out.size)); clear cR hbR hb5 b5)
  go_ret
  exact rightB_mk ⟨fun h => (by cases h), fun h => absurd h HF.out⟩ HB5.out
set_option maxRecDepth 20000 in
set_option maxHeartbeats 1000000 in
theorem inst_no {w : World} {A A' : Option Addr} {n c n' c' : Nat} {st cp op out arg at' : Int} {set : List Rg} (hn : n ≤ maxLen) (h1 : op < 1 ∨ 6 < op) :
    Calls Tryd.prog 31 #[.agg #[.slice A n c, .int .i64 st, .int .i64 cp], .agg #[.int .i64 op, .int .i64 out, .int .i64 arg, .slice A' n' c', .int .i64 at']] w (RightB n cp ⟨op, out, arg, A', n', c', at', set⟩ w) := by
  have hfin : ¬ InstOK n cp ⟨op, out, arg, A', n', c', at', set⟩ := by
    rintro (⟨h1, h2, h3, h4, h5⟩ | ⟨h1, h2, h3, h4, h5, h6, h7⟩ | ⟨h1, h2, h3, h4, h5, h6, h7⟩ | ⟨h1, h2, h3, h4, h5, h6, h7⟩ | ⟨h1, h2, h3, h4, h5, h6⟩)
    all_goals simp only at *
    all_goals omega
  have hnm : (n : Int) ≤ 9223372036854775807 := by unfold maxLen at hn; omega
  have HF := Lib.hid hfin
  clear hfin
  rcases h1 with h1 | h1
  · have q1 : decide (op < 1) = true := decide_eq_true h1
    clear h1
    go_enter Tryd.func31, Tryd.ntmps31
    go_wp2_with fail
    go_ret
    exact rightB_mk ⟨fun h => (by cases h), fun h => absurd h HF.out⟩ (((Below.refl _ _).alloc (Nat.le_refl _) _).alloc (by simp) _)
  · have q1 : decide (op < 1) = false := decide_eq_false (by omega)
    have q2 : decide (6 < op) = true := decide_eq_true h1
    clear h1
    go_enter Tryd.func31, Tryd.ntmps31
    go_wp2_with fail
    go_ret
    exact rightB_mk ⟨fun h => (by cases h), fun h => absurd h HF.out⟩ (((Below.refl _ _).alloc (Nat.le_refl _) _).alloc (by simp) _)
theorem inst_any {w : World} {A : Option Addr} {n c : Nat} {st cp : Int} (x : MI) (hx : x.In w) (hn : n ≤ maxLen) :
    Calls Tryd.prog 31 #[.agg #[.slice A n c, .int .i64 st, .int .i64 cp], .agg x.cells.toArray] w (RightB n cp x w) := by
  obtain ⟨op, out, arg, A', n', c', at', set⟩ := x
  have hx' : RgIn w A' n' c' set := hx
  show Calls Tryd.prog 31 #[.agg #[.slice A n c, .int .i64 st, .int .i64 cp], .agg #[.int .i64 op, .int .i64 out, .int .i64 arg, .slice A' n' c', .int .i64 at']] w _
  by_cases o0 : op < 1 ∨ 6 < op
  case pos => exact inst_no hn o0
  by_cases o1 : op = 1
  · subst o1
    by_cases t0 : out = 0
    case neg => exact inst_1_0 hx' hn  t0
    by_cases t1 : arg = 0
    case neg => exact inst_1_1 hx' hn t0 t1
    by_cases t3 : n' = 0
    case neg => exact inst_1_3 hx' hn t0 t1 t3
    by_cases t4 : at' = 0
    case neg => exact inst_1_4 hx' hn t0 t1 t3 t4
    exact inst_1_5 hx' hn t0 t1 t3 t4
  by_cases o6 : op = 6
  · subst o6
    by_cases t0 : out = 0
    case neg => exact inst_6_0 hx' hn  t0
    by_cases t1 : arg = 0
    case neg => exact inst_6_1 hx' hn t0 t1
    by_cases t3 : n' = 0
    case neg => exact inst_6_3 hx' hn t0 t1 t3
    by_cases t4 : at' = 0
    case neg => exact inst_6_4 hx' hn t0 t1 t3 t4
    exact inst_6_5 hx' hn t0 t1 t3 t4
  by_cases o2 : op = 2
  · subst o2
    by_cases t0 : 0 ≤ out
    case neg => exact inst_2_0 hx' hn  t0
    by_cases t1 : out < (n : Int)
    case neg => exact inst_2_1 hx' hn t0 t1
    by_cases t2 : arg = 0
    case neg => exact inst_2_2 hx' hn t0 t1 t2
    by_cases t3 : Canon set
    case neg => exact inst_2_3 hx' hn t0 t1 t2 t3
    by_cases t4 : 0 < n'
    case neg => exact inst_2_4 hx' hn t0 t1 t2 t3 t4
    by_cases t5 : at' = 0
    case neg => exact inst_2_5 hx' hn t0 t1 t2 t3 t4 t5
    exact inst_2_6 hx' hn t0 t1 t2 t3 t4 t5
  by_cases o3 : op = 3
  · subst o3
    by_cases t0 : 0 ≤ out
    case neg => exact inst_3_0 hx' hn  t0
    by_cases t1 : out < (n : Int)
    case neg => exact inst_3_1 hx' hn t0 t1
    by_cases t2 : 0 ≤ arg
    case neg => exact inst_3_2 hx' hn t0 t1 t2
    by_cases t3 : arg < (n : Int)
    case neg => exact inst_3_3 hx' hn t0 t1 t2 t3
    by_cases t5 : n' = 0
    case neg => exact inst_3_5 hx' hn t0 t1 t2 t3 t5
    by_cases t6 : at' = 0
    case neg => exact inst_3_6 hx' hn t0 t1 t2 t3 t5 t6
    exact inst_3_7 hx' hn t0 t1 t2 t3 t5 t6
  by_cases o4 : op = 4
  · subst o4
    by_cases t0 : 0 ≤ out
    case neg => exact inst_4_0 hx' hn  t0
    by_cases t1 : out < (n : Int)
    case neg => exact inst_4_1 hx' hn t0 t1
    by_cases t2 : 2 ≤ arg
    case neg => exact inst_4_2 hx' hn t0 t1 t2
    by_cases t3 : arg < cp
    case neg => exact inst_4_3 hx' hn t0 t1 t2 t3
    by_cases t5 : n' = 0
    case neg => exact inst_4_5 hx' hn t0 t1 t2 t3 t5
    by_cases t6 : at' = 0
    case neg => exact inst_4_6 hx' hn t0 t1 t2 t3 t5 t6
    exact inst_4_7 hx' hn t0 t1 t2 t3 t5 t6
  by_cases o5 : op = 5
  · subst o5
    by_cases t0 : 0 ≤ out
    case neg => exact inst_5_0 hx' hn  t0
    by_cases t1 : out < (n : Int)
    case neg => exact inst_5_1 hx' hn t0 t1
    by_cases t2 : arg = 0
    case neg => exact inst_5_2 hx' hn t0 t1 t2
    by_cases t4 : n' = 0
    case neg => exact inst_5_4 hx' hn t0 t1 t2 t4
    by_cases ta : at' ∈ AtL
    · rw [atL_iff] at ta
      rcases ta with ta | ta | ta | ta | ta | ta
      · subst ta; exact inst_5_5_1 hx' hn t0 t1 t2 t4
      · subst ta; exact inst_5_5_2 hx' hn t0 t1 t2 t4
      · subst ta; exact inst_5_5_4 hx' hn t0 t1 t2 t4
      · subst ta; exact inst_5_5_8 hx' hn t0 t1 t2 t4
      · subst ta; exact inst_5_5_16 hx' hn t0 t1 t2 t4
      · subst ta; exact inst_5_5_32 hx' hn t0 t1 t2 t4
    · exact inst_5_5_n hx' hn t0 t1 t2 t4 ta
  omega
end Go.Proofs.YtbhcgjahlfpjoaaDoor
