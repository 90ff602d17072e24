/- Check, the program's and the reference's: the walks. -/
import Derived.Test.YtbhcgjahlfpjoaaDoorPg4
import Derived.Test.YtbhcgjahlfpjoaaDoorHeld
namespace Go.Proofs.YtbhcgjahlfpjoaaDoor
open Go.RowKit

set_option maxRecDepth 20000 in
set_option maxHeartbeats 1000000 in
theorem chk_0 {w : World} {A : Option Addr} {n c : Nat} {st cp : Int} {L : List MI} (hA : PgIn w A n c L) (t0 : ¬ (1 ≤ n)) :
    Calls Tryd.prog 23 #[.agg #[.slice A n c, .int .i64 st, .int .i64 cp]] w (ChkB n st cp L w) := by
  have hnm : (n : Int) ≤ 9223372036854775807 := by have h1 := hA.max; have h2 := hA.le; unfold maxLen at h1; omega
  have hfin : ¬ PgOK n st cp L := fun h => by unfold PgOK at h; omega
  have HF := Lib.hid hfin
  have d0 : ((n : Int) == 0) = true := beq_iff_eq.2 (by omega)
  have d0b : decide ((n : Int) < 1) = true := decide_eq_true (by omega)
  have d0c : decide (n < 1) = true := decide_eq_true (by omega)
  have d0d : (n == 0) = true := beq_iff_eq.2 (by omega)
  clear hfin hA t0
  go_enter Tryd.func23, Tryd.ntmps23
  go_wp2_with fail
  go_ret
  exact chk_no HF.out ((Below.refl _ _).alloc (Nat.le_refl _) _)
set_option maxRecDepth 20000 in
set_option maxHeartbeats 1000000 in
theorem chk_1 {w : World} {A : Option Addr} {n c : Nat} {st cp : Int} {L : List MI} (hA : PgIn w A n c L) (_t0 : 1 ≤ n) (t1 : ¬ (n ≤ 10000)) :
    Calls Tryd.prog 23 #[.agg #[.slice A n c, .int .i64 st, .int .i64 cp]] w (ChkB n st cp L w) := by
  have hnm : (n : Int) ≤ 9223372036854775807 := by have h1 := hA.max; have h2 := hA.le; unfold maxLen at h1; omega
  have hfin : ¬ PgOK n st cp L := fun h => by unfold PgOK at h; omega
  have HF := Lib.hid hfin
  have d0 : ((n : Int) == 0) = false := beq_eq_false_iff_ne.2 (by omega)
  have d0b : decide ((n : Int) < 1) = false := decide_eq_false (by omega)
  have d0c : decide (n < 1) = false := decide_eq_false (by omega)
  have d0d : (n == 0) = false := beq_eq_false_iff_ne.2 (by omega)
  have d1 : decide ((10000 : Int) < (n : Int)) = true := decide_eq_true (by omega)
  have d1b : decide (10000 < n) = true := decide_eq_true (by omega)
  clear hfin hA _t0 t1
  go_enter Tryd.func23, Tryd.ntmps23
  go_wp2_with fail
  go_ret
  exact chk_no HF.out ((Below.refl _ _).alloc (Nat.le_refl _) _)
set_option maxRecDepth 20000 in
set_option maxHeartbeats 1000000 in
theorem chk_2 {w : World} {A : Option Addr} {n c : Nat} {st cp : Int} {L : List MI} (hA : PgIn w A n c L) (t0 : 1 ≤ n) (t1 : n ≤ 10000) (t2 : ¬ (0 ≤ st)) :
    Calls Tryd.prog 23 #[.agg #[.slice A n c, .int .i64 st, .int .i64 cp]] w (ChkB n st cp L w) := by
  have hnm : (n : Int) ≤ 9223372036854775807 := by have h1 := hA.max; have h2 := hA.le; unfold maxLen at h1; omega
  have hfin : ¬ PgOK n st cp L := fun h => by unfold PgOK at h; omega
  have HF := Lib.hid hfin
  have d0 : ((n : Int) == 0) = false := beq_eq_false_iff_ne.2 (by omega)
  have d0b : decide ((n : Int) < 1) = false := decide_eq_false (by omega)
  have d0c : decide (n < 1) = false := decide_eq_false (by omega)
  have d0d : (n == 0) = false := beq_eq_false_iff_ne.2 (by omega)
  have d1 : decide ((10000 : Int) < (n : Int)) = false := decide_eq_false (by omega)
  have d1b : decide (10000 < n) = false := decide_eq_false (by omega)
  have d2 : decide (st < 0) = true := decide_eq_true (by omega)
  clear hfin hA t0 t1 t2
  go_enter Tryd.func23, Tryd.ntmps23
  go_wp2_with fail
  go_ret
  exact chk_no HF.out ((Below.refl _ _).alloc (Nat.le_refl _) _)
set_option maxRecDepth 20000 in
set_option maxHeartbeats 1000000 in
theorem chk_3 {w : World} {A : Option Addr} {n c : Nat} {st cp : Int} {L : List MI} (hA : PgIn w A n c L) (t0 : 1 ≤ n) (t1 : n ≤ 10000) (t2 : 0 ≤ st) (t3 : ¬ (st < (n : Int))) :
    Calls Tryd.prog 23 #[.agg #[.slice A n c, .int .i64 st, .int .i64 cp]] w (ChkB n st cp L w) := by
  have hnm : (n : Int) ≤ 9223372036854775807 := by have h1 := hA.max; have h2 := hA.le; unfold maxLen at h1; omega
  have hfin : ¬ PgOK n st cp L := fun h => by unfold PgOK at h; omega
  have HF := Lib.hid hfin
  have d0 : ((n : Int) == 0) = false := beq_eq_false_iff_ne.2 (by omega)
  have d0b : decide ((n : Int) < 1) = false := decide_eq_false (by omega)
  have d0c : decide (n < 1) = false := decide_eq_false (by omega)
  have d0d : (n == 0) = false := beq_eq_false_iff_ne.2 (by omega)
  have d1 : decide ((10000 : Int) < (n : Int)) = false := decide_eq_false (by omega)
  have d1b : decide (10000 < n) = false := decide_eq_false (by omega)
  have d2 : decide (st < 0) = false := decide_eq_false (by omega)
  have d3 : decide ((n : Int) ≤ st) = true := decide_eq_true (by omega)
  clear hfin hA t0 t1 t2 t3
  go_enter Tryd.func23, Tryd.ntmps23
  go_wp2_with fail
  go_ret
  exact chk_no HF.out ((Below.refl _ _).alloc (Nat.le_refl _) _)
set_option maxRecDepth 20000 in
set_option maxHeartbeats 1000000 in
theorem chk_4 {w : World} {A : Option Addr} {n c : Nat} {st cp : Int} {L : List MI} (hA : PgIn w A n c L) (t0 : 1 ≤ n) (t1 : n ≤ 10000) (t2 : 0 ≤ st) (t3 : st < (n : Int)) (t4 : ¬ (2 ≤ cp)) :
    Calls Tryd.prog 23 #[.agg #[.slice A n c, .int .i64 st, .int .i64 cp]] w (ChkB n st cp L w) := by
  have hnm : (n : Int) ≤ 9223372036854775807 := by have h1 := hA.max; have h2 := hA.le; unfold maxLen at h1; omega
  have hfin : ¬ PgOK n st cp L := fun h => by unfold PgOK at h; omega
  have HF := Lib.hid hfin
  have d0 : ((n : Int) == 0) = false := beq_eq_false_iff_ne.2 (by omega)
  have d0b : decide ((n : Int) < 1) = false := decide_eq_false (by omega)
  have d0c : decide (n < 1) = false := decide_eq_false (by omega)
  have d0d : (n == 0) = false := beq_eq_false_iff_ne.2 (by omega)
  have d1 : decide ((10000 : Int) < (n : Int)) = false := decide_eq_false (by omega)
  have d1b : decide (10000 < n) = false := decide_eq_false (by omega)
  have d2 : decide (st < 0) = false := decide_eq_false (by omega)
  have d3 : decide ((n : Int) ≤ st) = false := decide_eq_false (by omega)
  have d4 : decide (cp < 2) = true := decide_eq_true (by omega)
  clear hfin hA t0 t1 t2 t3 t4
  go_enter Tryd.func23, Tryd.ntmps23
  go_wp2_with fail
  go_ret
  exact chk_no HF.out ((Below.refl _ _).alloc (Nat.le_refl _) _)
set_option maxRecDepth 20000 in
set_option maxHeartbeats 1000000 in
theorem chk_5 {w : World} {A : Option Addr} {n c : Nat} {st cp : Int} {L : List MI} (hA : PgIn w A n c L) (t0 : 1 ≤ n) (t1 : n ≤ 10000) (t2 : 0 ≤ st) (t3 : st < (n : Int)) (_t4 : 2 ≤ cp) (t5 : ¬ (cp ≤ 4002)) :
    Calls Tryd.prog 23 #[.agg #[.slice A n c, .int .i64 st, .int .i64 cp]] w (ChkB n st cp L w) := by
  have hnm : (n : Int) ≤ 9223372036854775807 := by have h1 := hA.max; have h2 := hA.le; unfold maxLen at h1; omega
  have hfin : ¬ PgOK n st cp L := fun h => by unfold PgOK at h; omega
  have HF := Lib.hid hfin
  have d0 : ((n : Int) == 0) = false := beq_eq_false_iff_ne.2 (by omega)
  have d0b : decide ((n : Int) < 1) = false := decide_eq_false (by omega)
  have d0c : decide (n < 1) = false := decide_eq_false (by omega)
  have d0d : (n == 0) = false := beq_eq_false_iff_ne.2 (by omega)
  have d1 : decide ((10000 : Int) < (n : Int)) = false := decide_eq_false (by omega)
  have d1b : decide (10000 < n) = false := decide_eq_false (by omega)
  have d2 : decide (st < 0) = false := decide_eq_false (by omega)
  have d3 : decide ((n : Int) ≤ st) = false := decide_eq_false (by omega)
  have d4 : decide (cp < 2) = false := decide_eq_false (by omega)
  have d5 : decide (4002 < cp) = true := decide_eq_true (by omega)
  clear hfin hA t0 t1 t2 t3 t5
  go_enter Tryd.func23, Tryd.ntmps23
  go_wp2_with fail
  go_ret
  exact chk_no HF.out ((Below.refl _ _).alloc (Nat.le_refl _) _)
set_option maxRecDepth 20000 in
set_option maxHeartbeats 1000000 in
theorem chk_6 {w : World} {A : Option Addr} {n c : Nat} {st cp : Int} {L : List MI} (hA : PgIn w A n c L) (t0 : 1 ≤ n) (t1 : n ≤ 10000) (t2 : 0 ≤ st) (t3 : st < (n : Int)) (t4 : 2 ≤ cp) (t5 : cp ≤ 4002) (t6 : ¬ (cp % 2 = 0)) :
    Calls Tryd.prog 23 #[.agg #[.slice A n c, .int .i64 st, .int .i64 cp]] w (ChkB n st cp L w) := by
  have hnm : (n : Int) ≤ 9223372036854775807 := by have h1 := hA.max; have h2 := hA.le; unfold maxLen at h1; omega
  have hfin : ¬ PgOK n st cp L := fun h => by unfold PgOK at h; omega
  have HF := Lib.hid hfin
  have d0 : ((n : Int) == 0) = false := beq_eq_false_iff_ne.2 (by omega)
  have d0b : decide ((n : Int) < 1) = false := decide_eq_false (by omega)
  have d0c : decide (n < 1) = false := decide_eq_false (by omega)
  have d0d : (n == 0) = false := beq_eq_false_iff_ne.2 (by omega)
  have d1 : decide ((10000 : Int) < (n : Int)) = false := decide_eq_false (by omega)
  have d1b : decide (10000 < n) = false := decide_eq_false (by omega)
  have d2 : decide (st < 0) = false := decide_eq_false (by omega)
  have d3 : decide ((n : Int) ≤ st) = false := decide_eq_false (by omega)
  have d4 : decide (cp < 2) = false := decide_eq_false (by omega)
  have d5 : decide (4002 < cp) = false := decide_eq_false (by omega)
  have d6 : (cp % 2 == 1) = true := beq_iff_eq.2 (by omega)
  have d6b : (cp % 2 != 0) = true := by rw [bne_iff_ne]; omega
  clear hfin hA t0 t1 t2 t3 t5 t6
  go_enter Tryd.func23, Tryd.ntmps23
  go_wp2_with fail
  go_ret
  exact chk_no HF.out ((Below.refl _ _).alloc (Nat.le_refl _) _)
set_option maxRecDepth 20000 in
set_option maxHeartbeats 1000000 in
theorem chk_no' {w : World} {A : Option Addr} {n c : Nat} {st cp : Int} {L : List MI} (hA : PgIn w A n c L) (hs : ∀ x ∈ L, x.n ≤ 1000000) (t0 : 1 ≤ n) (t1 : n ≤ 10000) (t2 : 0 ≤ st) (t3 : st < (n : Int)) (t4 : 2 ≤ cp) (t5 : cp ≤ 4002) (t6 : cp % 2 = 0) (tl : (L.any fun x => !okB n cp x) = true) :
    Calls Tryd.prog 23 #[.agg #[.slice A n c, .int .i64 st, .int .i64 cp]] w (ChkB n st cp L w) := by
  have hnm : (n : Int) ≤ 9223372036854775807 := by have h1 := hA.max; have h2 := hA.le; unfold maxLen at h1; omega
  have hfin : ¬ PgOK n st cp L := fun h => by rw [(any_not n cp L).2 h.2.2.2.2.2.2.2] at tl; cases tl
  have HF := Lib.hid hfin
  have hb : Below w.heap.size w (w.alloc (.cells #[.slice A n c, .int .i64 st, .int .i64 cp] 28)) := (Below.refl _ _).alloc (Nat.le_refl _) _
  have hB := Blk.new w 28 #[.slice A n c, .int .i64 st, .int .i64 cp]
  have eg : ∀ args w, (callFunc 42 args).run Tryd.prog w = .ok (.enter 42 args) w := enters_of Tryd.func42 (by kernel_rfl) rfl
  have hn := Nat.le_trans hA.le hA.max
  have hA1 := hA.below hb
  have hcon := containsP_any hA1 (fun x => !okB n cp x) 42 #[.pointer (some ⟨w.heap.size, 0, none⟩)] eg (fun W x hx hW => check1_any x ((hA1.sets x hx).below hW) (hB.below hW hB.lt) hn (hs x hx))
  rw [tl] at hcon
  have HB := Lib.hid hb
  have d0 : ((n : Int) == 0) = false := beq_eq_false_iff_ne.2 (by omega)
  have d0b : decide ((n : Int) < 1) = false := decide_eq_false (by omega)
  have d0c : decide (n < 1) = false := decide_eq_false (by omega)
  have d0d : (n == 0) = false := beq_eq_false_iff_ne.2 (by omega)
  have d1 : decide ((10000 : Int) < (n : Int)) = false := decide_eq_false (by omega)
  have d1b : decide (10000 < n) = false := decide_eq_false (by omega)
  have d2 : decide (st < 0) = false := decide_eq_false (by omega)
  have d3 : decide ((n : Int) ≤ st) = false := decide_eq_false (by omega)
  have d4 : decide (cp < 2) = false := decide_eq_false (by omega)
  have d5 : decide (4002 < cp) = false := decide_eq_false (by omega)
  have d6 : (cp % 2 == 1) = false := beq_eq_false_iff_ne.2 (by omega)
  have d6b : (cp % 2 != 0) = false := by rw [bne_eq_false_iff_eq]; omega
  clear hfin hA hA1 hs tl hB hb hn t0 t1 t2 t3 t5 t6
  go_enter Tryd.func23, Tryd.ntmps23
  go_wp2_with fail
  refine hcon.mono ?_
  rintro e w5 ⟨rfl, hb5⟩
  have HB5 := Lib.hid (HB.out.trans (hb5.mono HB.out.size))
  clear hcon hb5
  go_wp2_with fail
  go_ret
  exact chk_no HF.out HB5.out
set_option maxRecDepth 20000 in
set_option maxHeartbeats 1000000 in
theorem chk_yes' {w : World} {A : Option Addr} {n c : Nat} {st cp : Int} {L : List MI} (hA : PgIn w A n c L) (hs : ∀ x ∈ L, x.n ≤ 1000000) (t0 : 1 ≤ n) (t1 : n ≤ 10000) (t2 : 0 ≤ st) (t3 : st < (n : Int)) (t4 : 2 ≤ cp) (t5 : cp ≤ 4002) (t6 : cp % 2 = 0) (tl : (L.any fun x => !okB n cp x) = false) :
    Calls Tryd.prog 23 #[.agg #[.slice A n c, .int .i64 st, .int .i64 cp]] w (ChkB n st cp L w) := by
  have hnm : (n : Int) ≤ 9223372036854775807 := by have h1 := hA.max; have h2 := hA.le; unfold maxLen at h1; omega
  have hfin : PgOK n st cp L := ⟨t0, t1, t2, t3, t4, t5, t6, (any_not n cp L).1 tl⟩
  have HF := Lib.hid hfin
  have hb : Below w.heap.size w (w.alloc (.cells #[.slice A n c, .int .i64 st, .int .i64 cp] 28)) := (Below.refl _ _).alloc (Nat.le_refl _) _
  have hB := Blk.new w 28 #[.slice A n c, .int .i64 st, .int .i64 cp]
  have eg : ∀ args w, (callFunc 42 args).run Tryd.prog w = .ok (.enter 42 args) w := enters_of Tryd.func42 (by kernel_rfl) rfl
  have hn := Nat.le_trans hA.le hA.max
  have hA1 := hA.below hb
  have hcon := containsP_any hA1 (fun x => !okB n cp x) 42 #[.pointer (some ⟨w.heap.size, 0, none⟩)] eg (fun W x hx hW => check1_any x ((hA1.sets x hx).below hW) (hB.below hW hB.lt) hn (hs x hx))
  rw [tl] at hcon
  have HB := Lib.hid hb
  have d0 : ((n : Int) == 0) = false := beq_eq_false_iff_ne.2 (by omega)
  have d0b : decide ((n : Int) < 1) = false := decide_eq_false (by omega)
  have d0c : decide (n < 1) = false := decide_eq_false (by omega)
  have d0d : (n == 0) = false := beq_eq_false_iff_ne.2 (by omega)
  have d1 : decide ((10000 : Int) < (n : Int)) = false := decide_eq_false (by omega)
  have d1b : decide (10000 < n) = false := decide_eq_false (by omega)
  have d2 : decide (st < 0) = false := decide_eq_false (by omega)
  have d3 : decide ((n : Int) ≤ st) = false := decide_eq_false (by omega)
  have d4 : decide (cp < 2) = false := decide_eq_false (by omega)
  have d5 : decide (4002 < cp) = false := decide_eq_false (by omega)
  have d6 : (cp % 2 == 1) = false := beq_eq_false_iff_ne.2 (by omega)
  have d6b : (cp % 2 != 0) = false := by rw [bne_eq_false_iff_eq]; omega
  clear hfin hA hA1 hs tl hB hb hn t0 t1 t2 t3 t5 t6
  go_enter Tryd.func23, Tryd.ntmps23
  go_wp2_with fail
  refine hcon.mono ?_
  rintro e w5 ⟨rfl, hb5⟩
  have HB5 := Lib.hid (HB.out.trans (hb5.mono HB.out.size))
  clear hcon hb5
  go_wp2_with fail
  go_ret
  exact chk_yes HF.out HB5.out
set_option maxRecDepth 20000 in
set_option maxHeartbeats 1000000 in
theorem rchk_0 {w : World} {A : Option Addr} {n c : Nat} {st cp : Int} {L : List MI} (hA : PgIn w A n c L) (t0 : ¬ (1 ≤ n)) :
    Calls Tryd.prog 12 #[.agg #[.slice A n c, .int .i64 st, .int .i64 cp]] w (ChkB n st cp L w) := by
  have hnm : (n : Int) ≤ 9223372036854775807 := by have h1 := hA.max; have h2 := hA.le; unfold maxLen at h1; omega
  have hfin : ¬ PgOK n st cp L := fun h => by unfold PgOK at h; omega
  have HF := Lib.hid hfin
  have d0 : ((n : Int) == 0) = true := beq_iff_eq.2 (by omega)
  have d0b : decide ((n : Int) < 1) = true := decide_eq_true (by omega)
  have d0c : decide (n < 1) = true := decide_eq_true (by omega)
  have d0d : (n == 0) = true := beq_iff_eq.2 (by omega)
  clear hfin hA t0
  go_enter Tryd.func12, Tryd.ntmps12
  go_wp2_with fail
  go_ret
  exact chk_no HF.out ((Below.refl _ _).alloc (Nat.le_refl _) _)
set_option maxRecDepth 20000 in
set_option maxHeartbeats 1000000 in
theorem rchk_1 {w : World} {A : Option Addr} {n c : Nat} {st cp : Int} {L : List MI} (hA : PgIn w A n c L) (_t0 : 1 ≤ n) (t1 : ¬ (n ≤ 10000)) :
    Calls Tryd.prog 12 #[.agg #[.slice A n c, .int .i64 st, .int .i64 cp]] w (ChkB n st cp L w) := by
  have hnm : (n : Int) ≤ 9223372036854775807 := by have h1 := hA.max; have h2 := hA.le; unfold maxLen at h1; omega
  have hfin : ¬ PgOK n st cp L := fun h => by unfold PgOK at h; omega
  have HF := Lib.hid hfin
  have d0 : ((n : Int) == 0) = false := beq_eq_false_iff_ne.2 (by omega)
  have d0b : decide ((n : Int) < 1) = false := decide_eq_false (by omega)
  have d0c : decide (n < 1) = false := decide_eq_false (by omega)
  have d0d : (n == 0) = false := beq_eq_false_iff_ne.2 (by omega)
  have d1 : decide ((10000 : Int) < (n : Int)) = true := decide_eq_true (by omega)
  have d1b : decide (10000 < n) = true := decide_eq_true (by omega)
  clear hfin hA _t0 t1
  go_enter Tryd.func12, Tryd.ntmps12
  go_wp2_with fail
  go_ret
  exact chk_no HF.out ((Below.refl _ _).alloc (Nat.le_refl _) _)
set_option maxRecDepth 20000 in
set_option maxHeartbeats 1000000 in
theorem rchk_2 {w : World} {A : Option Addr} {n c : Nat} {st cp : Int} {L : List MI} (hA : PgIn w A n c L) (t0 : 1 ≤ n) (t1 : n ≤ 10000) (t2 : ¬ (0 ≤ st)) :
    Calls Tryd.prog 12 #[.agg #[.slice A n c, .int .i64 st, .int .i64 cp]] w (ChkB n st cp L w) := by
  have hnm : (n : Int) ≤ 9223372036854775807 := by have h1 := hA.max; have h2 := hA.le; unfold maxLen at h1; omega
  have hfin : ¬ PgOK n st cp L := fun h => by unfold PgOK at h; omega
  have HF := Lib.hid hfin
  have d0 : ((n : Int) == 0) = false := beq_eq_false_iff_ne.2 (by omega)
  have d0b : decide ((n : Int) < 1) = false := decide_eq_false (by omega)
  have d0c : decide (n < 1) = false := decide_eq_false (by omega)
  have d0d : (n == 0) = false := beq_eq_false_iff_ne.2 (by omega)
  have d1 : decide ((10000 : Int) < (n : Int)) = false := decide_eq_false (by omega)
  have d1b : decide (10000 < n) = false := decide_eq_false (by omega)
  have d2 : decide (st < 0) = true := decide_eq_true (by omega)
  clear hfin hA t0 t1 t2
  go_enter Tryd.func12, Tryd.ntmps12
  go_wp2_with fail
  go_ret
  exact chk_no HF.out ((Below.refl _ _).alloc (Nat.le_refl _) _)
set_option maxRecDepth 20000 in
set_option maxHeartbeats 1000000 in
theorem rchk_3 {w : World} {A : Option Addr} {n c : Nat} {st cp : Int} {L : List MI} (hA : PgIn w A n c L) (t0 : 1 ≤ n) (t1 : n ≤ 10000) (t2 : 0 ≤ st) (t3 : ¬ (st < (n : Int))) :
    Calls Tryd.prog 12 #[.agg #[.slice A n c, .int .i64 st, .int .i64 cp]] w (ChkB n st cp L w) := by
  have hnm : (n : Int) ≤ 9223372036854775807 := by have h1 := hA.max; have h2 := hA.le; unfold maxLen at h1; omega
  have hfin : ¬ PgOK n st cp L := fun h => by unfold PgOK at h; omega
  have HF := Lib.hid hfin
  have d0 : ((n : Int) == 0) = false := beq_eq_false_iff_ne.2 (by omega)
  have d0b : decide ((n : Int) < 1) = false := decide_eq_false (by omega)
  have d0c : decide (n < 1) = false := decide_eq_false (by omega)
  have d0d : (n == 0) = false := beq_eq_false_iff_ne.2 (by omega)
  have d1 : decide ((10000 : Int) < (n : Int)) = false := decide_eq_false (by omega)
  have d1b : decide (10000 < n) = false := decide_eq_false (by omega)
  have d2 : decide (st < 0) = false := decide_eq_false (by omega)
  have d3 : decide ((n : Int) ≤ st) = true := decide_eq_true (by omega)
  clear hfin hA t0 t1 t2 t3
  go_enter Tryd.func12, Tryd.ntmps12
  go_wp2_with fail
  go_ret
  exact chk_no HF.out ((Below.refl _ _).alloc (Nat.le_refl _) _)
set_option maxRecDepth 20000 in
set_option maxHeartbeats 1000000 in
theorem rchk_4 {w : World} {A : Option Addr} {n c : Nat} {st cp : Int} {L : List MI} (hA : PgIn w A n c L) (t0 : 1 ≤ n) (t1 : n ≤ 10000) (t2 : 0 ≤ st) (t3 : st < (n : Int)) (t4 : ¬ (2 ≤ cp)) :
    Calls Tryd.prog 12 #[.agg #[.slice A n c, .int .i64 st, .int .i64 cp]] w (ChkB n st cp L w) := by
  have hnm : (n : Int) ≤ 9223372036854775807 := by have h1 := hA.max; have h2 := hA.le; unfold maxLen at h1; omega
  have hfin : ¬ PgOK n st cp L := fun h => by unfold PgOK at h; omega
  have HF := Lib.hid hfin
  have d0 : ((n : Int) == 0) = false := beq_eq_false_iff_ne.2 (by omega)
  have d0b : decide ((n : Int) < 1) = false := decide_eq_false (by omega)
  have d0c : decide (n < 1) = false := decide_eq_false (by omega)
  have d0d : (n == 0) = false := beq_eq_false_iff_ne.2 (by omega)
  have d1 : decide ((10000 : Int) < (n : Int)) = false := decide_eq_false (by omega)
  have d1b : decide (10000 < n) = false := decide_eq_false (by omega)
  have d2 : decide (st < 0) = false := decide_eq_false (by omega)
  have d3 : decide ((n : Int) ≤ st) = false := decide_eq_false (by omega)
  have d4 : decide (cp < 2) = true := decide_eq_true (by omega)
  clear hfin hA t0 t1 t2 t3 t4
  go_enter Tryd.func12, Tryd.ntmps12
  go_wp2_with fail
  go_ret
  exact chk_no HF.out ((Below.refl _ _).alloc (Nat.le_refl _) _)
set_option maxRecDepth 20000 in
set_option maxHeartbeats 1000000 in
theorem rchk_5 {w : World} {A : Option Addr} {n c : Nat} {st cp : Int} {L : List MI} (hA : PgIn w A n c L) (t0 : 1 ≤ n) (t1 : n ≤ 10000) (t2 : 0 ≤ st) (t3 : st < (n : Int)) (_t4 : 2 ≤ cp) (t5 : ¬ (cp ≤ 4002)) :
    Calls Tryd.prog 12 #[.agg #[.slice A n c, .int .i64 st, .int .i64 cp]] w (ChkB n st cp L w) := by
  have hnm : (n : Int) ≤ 9223372036854775807 := by have h1 := hA.max; have h2 := hA.le; unfold maxLen at h1; omega
  have hfin : ¬ PgOK n st cp L := fun h => by unfold PgOK at h; omega
  have HF := Lib.hid hfin
  have d0 : ((n : Int) == 0) = false := beq_eq_false_iff_ne.2 (by omega)
  have d0b : decide ((n : Int) < 1) = false := decide_eq_false (by omega)
  have d0c : decide (n < 1) = false := decide_eq_false (by omega)
  have d0d : (n == 0) = false := beq_eq_false_iff_ne.2 (by omega)
  have d1 : decide ((10000 : Int) < (n : Int)) = false := decide_eq_false (by omega)
  have d1b : decide (10000 < n) = false := decide_eq_false (by omega)
  have d2 : decide (st < 0) = false := decide_eq_false (by omega)
  have d3 : decide ((n : Int) ≤ st) = false := decide_eq_false (by omega)
  have d4 : decide (cp < 2) = false := decide_eq_false (by omega)
  have d5 : decide (4002 < cp) = true := decide_eq_true (by omega)
  clear hfin hA t0 t1 t2 t3 t5
  go_enter Tryd.func12, Tryd.ntmps12
  go_wp2_with fail
  go_ret
  exact chk_no HF.out ((Below.refl _ _).alloc (Nat.le_refl _) _)
set_option maxRecDepth 20000 in
set_option maxHeartbeats 1000000 in
theorem rchk_6 {w : World} {A : Option Addr} {n c : Nat} {st cp : Int} {L : List MI} (hA : PgIn w A n c L) (t0 : 1 ≤ n) (t1 : n ≤ 10000) (t2 : 0 ≤ st) (t3 : st < (n : Int)) (t4 : 2 ≤ cp) (t5 : cp ≤ 4002) (t6 : ¬ (cp % 2 = 0)) :
    Calls Tryd.prog 12 #[.agg #[.slice A n c, .int .i64 st, .int .i64 cp]] w (ChkB n st cp L w) := by
  have hnm : (n : Int) ≤ 9223372036854775807 := by have h1 := hA.max; have h2 := hA.le; unfold maxLen at h1; omega
  have hfin : ¬ PgOK n st cp L := fun h => by unfold PgOK at h; omega
  have HF := Lib.hid hfin
  have d0 : ((n : Int) == 0) = false := beq_eq_false_iff_ne.2 (by omega)
  have d0b : decide ((n : Int) < 1) = false := decide_eq_false (by omega)
  have d0c : decide (n < 1) = false := decide_eq_false (by omega)
  have d0d : (n == 0) = false := beq_eq_false_iff_ne.2 (by omega)
  have d1 : decide ((10000 : Int) < (n : Int)) = false := decide_eq_false (by omega)
  have d1b : decide (10000 < n) = false := decide_eq_false (by omega)
  have d2 : decide (st < 0) = false := decide_eq_false (by omega)
  have d3 : decide ((n : Int) ≤ st) = false := decide_eq_false (by omega)
  have d4 : decide (cp < 2) = false := decide_eq_false (by omega)
  have d5 : decide (4002 < cp) = false := decide_eq_false (by omega)
  have d6 : (cp % 2 == 1) = true := beq_iff_eq.2 (by omega)
  have d6b : (cp % 2 != 0) = true := by rw [bne_iff_ne]; omega
  clear hfin hA t0 t1 t2 t3 t5 t6
  go_enter Tryd.func12, Tryd.ntmps12
  go_wp2_with fail
  go_ret
  exact chk_no HF.out ((Below.refl _ _).alloc (Nat.le_refl _) _)
theorem pcheck_any {w : World} {A : Option Addr} {n c : Nat} {st cp : Int} {L : List MI} (hA : PgIn w A n c L) (hs : ∀ x ∈ L, x.n ≤ 1000000) :
    Calls Tryd.prog 23 #[.agg #[.slice A n c, .int .i64 st, .int .i64 cp]] w (ChkB n st cp L w) := by
  by_cases t0 : 1 ≤ n
  case neg => exact chk_0 hA t0
  by_cases t1 : n ≤ 10000
  case neg => exact chk_1 hA t0 t1
  by_cases t2 : 0 ≤ st
  case neg => exact chk_2 hA t0 t1 t2
  by_cases t3 : st < (n : Int)
  case neg => exact chk_3 hA t0 t1 t2 t3
  by_cases t4 : 2 ≤ cp
  case neg => exact chk_4 hA t0 t1 t2 t3 t4
  by_cases t5 : cp ≤ 4002
  case neg => exact chk_5 hA t0 t1 t2 t3 t4 t5
  by_cases t6 : cp % 2 = 0
  case neg => exact chk_6 hA t0 t1 t2 t3 t4 t5 t6
  cases tl : (L.any fun x => !okB n cp x) with
  | true => exact Go.Proofs.YtbhcgjahlfpjoaaDoor.chk_no' hA hs t0 t1 t2 t3 t4 t5 t6 tl
  | false => exact Go.Proofs.YtbhcgjahlfpjoaaDoor.chk_yes' hA hs t0 t1 t2 t3 t4 t5 t6 tl
set_option maxRecDepth 20000 in
set_option maxHeartbeats 4000000 in
theorem rchk_loop {w : World} {A : Option Addr} {n c : Nat} {st cp : Int} {L : List MI} (hA : PgIn w A n c L) (t0 : 1 ≤ n) (t1 : n ≤ 10000) (t2 : 0 ≤ st) (t3 : st < (n : Int)) (t4 : 2 ≤ cp) (t5 : cp ≤ 4002) (t6 : cp % 2 = 0) :
    Calls Tryd.prog 12 #[.agg #[.slice A n c, .int .i64 st, .int .i64 cp]] w (ChkB n st cp L w) := by
  have hn := Nat.le_trans hA.le hA.max
  have hnm : (n : Int) ≤ 9223372036854775807 := by unfold maxLen at hn; omega
  have hyes : (∀ x ∈ L, InstOK n cp x) → PgOK n st cp L := fun h => ⟨t0, t1, t2, t3, t4, t5, t6, h⟩
  have HYES := Lib.hid hyes
  have HA := Lib.hid hA
  have HN := Lib.hid hn
  have d0 : ((n : Int) == 0) = false := beq_eq_false_iff_ne.2 (by omega)
  have d0b : decide ((n : Int) < 1) = false := decide_eq_false (by omega)
  have d0c : decide (n < 1) = false := decide_eq_false (by omega)
  have d0d : (n == 0) = false := beq_eq_false_iff_ne.2 (by omega)
  have d1 : decide ((10000 : Int) < (n : Int)) = false := decide_eq_false (by omega)
  have d1b : decide (10000 < n) = false := decide_eq_false (by omega)
  have d2 : decide (st < 0) = false := decide_eq_false (by omega)
  have d3 : decide ((n : Int) ≤ st) = false := decide_eq_false (by omega)
  have d4 : decide (cp < 2) = false := decide_eq_false (by omega)
  have d5 : decide (4002 < cp) = false := decide_eq_false (by omega)
  have d6 : (cp % 2 == 1) = false := beq_eq_false_iff_ne.2 (by omega)
  have d6b : (cp % 2 != 0) = false := by rw [bne_eq_false_iff_eq]; omega
  clear hA hyes hn t0 t1 t2 t3 t5 t6
  go_enter Tryd.func12, Tryd.ntmps12
  go_wp2_with fail
  have hB := Blk.new w 28 #[.slice A n c, .int .i64 st, .int .i64 cp]
  have hb0 : Below w.heap.size w (w.alloc (.cells #[.slice A n c, .int .i64 st, .int .i64 cp] 28)) := (Below.refl _ _).alloc (Nat.le_refl _) _
  have hz0 : w.heap.size < (w.alloc (.cells #[.slice A n c, .int .i64 st, .int .i64 cp] 28)).heap.size := by simp
  generalize w.alloc (.cells #[.slice A n c, .int .i64 st, .int .i64 cp] 28) = w0 at hB hb0 hz0 ⊢
  have HB := Lib.hid hB
  have HB0 := Lib.hid hb0
  clear hB hb0
  go_loopg [4] (n + 1) (fun q i W => ∃ (j : Nat), q = n + 1 - j ∧ j ≤ n ∧ i = .int .i64 (j : Int) ∧ Hid (Below w0.heap.size w0 W) ∧ Hid (∀ k x, k < j → L[k]? = some x → InstOK n cp x))
  case atStart => exact ⟨0, rfl, by omega, rfl, Lib.hid (Below.refl _ _), Lib.hid (fun k x hk => by omega)⟩
  case round =>
    obtain ⟨j, hgk, hj, rfl, HW, HI⟩ := hrel
    obtain ⟨wo, hwo⟩ : ∃ wo, wo = wr := ⟨_, rfl⟩
    subst hwo
    have HG := Lib.hid hgk
    clear hgk
    by_cases hlt : j < n
    · have hji : (j : Int) < (n : Int) := by omega
      have hj0 : (0 : Int) ≤ (j : Int) := by omega
      obtain ⟨b, o, x, rfl, hbl, hx, hin, hc⟩ := (HA.out.below HB0.out).at hlt
      have hst : ∀ W, Below wo.heap.size wo W → W.cell? ⟨w.heap.size, 0, none⟩ = some (.slice (some ⟨b, o, none⟩) n c) ∧ W.cell? ⟨w.heap.size, 1, none⟩ = some (.int .i64 st) ∧ W.cell? ⟨w.heap.size, 2, none⟩ = some (.int .i64 cp) ∧ W.cell? ⟨b, o + j * 5, none⟩ = some (.int .i64 x.op) ∧ W.cell? ⟨b, o + j * 5 + 1, none⟩ = some (.int .i64 x.out) ∧ W.cell? ⟨b, o + j * 5 + 2, none⟩ = some (.int .i64 x.arg) ∧ W.cell? ⟨b, o + j * 5 + 3, none⟩ = some (.slice x.A x.n x.c) ∧ W.cell? ⟨b, o + j * 5 + 4, none⟩ = some (.int .i64 x.at_) := fun W hW => by
        have h2 := HW.out.onto hW
        have hBW := HB.out.below h2 hz0
        exact ⟨hBW.cell 0, hBW.cell 1, hBW.cell 2, hc W (.of_below h2 (Nat.le_refl _))⟩
      have hS := hst wo.drew (Below.refl _ _).drew
      have hr := inst_any (A := some ⟨b, o, none⟩) (n := n) (c := c) (st := st) (cp := cp) x (hin.below (HW.out.drew)) HN.out
      simp only [MI.cells] at hr
      have HST : Hid (∀ W, Below wo.drew.heap.size wo.drew W → _) := Lib.hid fun W hW => hst W ⟨hW.os, hW.tape, hW.output, hW.size, hW.block⟩
      have HX := Lib.hid hx
      have HLT := Lib.hid hlt
      clear hx hin hc hst hlt hbl
      go_wp2_with fail
      refine wp_region_T (S := fun w' => w'.cell? ⟨w.heap.size, 0, none⟩ = some (.slice (some ⟨b, o, none⟩) n c) ∧ w'.cell? ⟨w.heap.size, 1, none⟩ = some (.int .i64 st) ∧ w'.cell? ⟨w.heap.size, 2, none⟩ = some (.int .i64 cp) ∧ w'.cell? ⟨b, o + j * 5, none⟩ = some (.int .i64 x.op) ∧ w'.cell? ⟨b, o + j * 5 + 1, none⟩ = some (.int .i64 x.out) ∧ w'.cell? ⟨b, o + j * 5 + 2, none⟩ = some (.int .i64 x.arg) ∧ w'.cell? ⟨b, o + j * 5 + 3, none⟩ = some (.slice x.A x.n x.c) ∧ w'.cell? ⟨b, o + j * 5 + 4, none⟩ = some (.int .i64 x.at_)) (t := 8) (by kernel_rfl) ?_
      refine wpAnyT_take (i := 0) (v := ?_) rfl (by kernel_rfl) (by kernel_rfl) (by kernel_rfl) (fun _ _ _ h => h) (by kernel_rfl) (Or.inl ⟨by rfl, ?_⟩) hS ?_
      rotate_left
      · (intro w hS; obtain ⟨s1, s2, s3, s4, s5, s6, s7, s8⟩ := hS; go_simp; try with_reducible rfl)
      try simp only [List.getElem_toArray, List.getElem_cons_zero, Act.put, List.setIfInBounds_toArray, List.set_cons_zero, List.set_cons_succ]
      refine wpAnyT_take (i := 1) (v := ?_) rfl (by kernel_rfl) (by kernel_rfl) (by kernel_rfl) (fun _ _ _ h => h) (by kernel_rfl) (Or.inl ⟨by rfl, ?_⟩) hS ?_
      rotate_left
      · (intro w _; go_simp; try with_reducible rfl)
      try simp only [List.getElem_toArray, List.getElem_cons_succ, List.getElem_cons_zero, Act.put, List.setIfInBounds_toArray, List.set_cons_zero, List.set_cons_succ]
      refine wpAnyT_take (i := 2) (v := ?_) rfl (by kernel_rfl) (by kernel_rfl) (by kernel_rfl) (fun _ _ _ h => h) (by kernel_rfl) (Or.inl ⟨by rfl, ?_⟩) hS ?_
      rotate_left
      · (intro w hS; obtain ⟨s1, s2, s3, s4, s5, s6, s7, s8⟩ := hS; go_simp; try with_reducible rfl)
      try simp only [List.getElem_toArray, List.getElem_cons_succ, List.getElem_cons_zero, Act.put, List.setIfInBounds_toArray, List.set_cons_zero, List.set_cons_succ]
      refine wpAnyT_take (i := 3) (v := ?_) rfl (by kernel_rfl) (by kernel_rfl) (by kernel_rfl) (fun _ _ _ h => h) (by kernel_rfl) (Or.inl ⟨by rfl, ?_⟩) hS ?_
      rotate_left
      · (intro w _; go_simp; try with_reducible rfl)
      try simp only [List.getElem_toArray, List.getElem_cons_succ, List.getElem_cons_zero, Act.put, List.setIfInBounds_toArray, List.set_cons_zero, List.set_cons_succ]
      refine wpAnyT_take (i := 4) (v := ?_) rfl (by kernel_rfl) (by kernel_rfl) (by kernel_rfl) (fun _ _ _ h => h) (by kernel_rfl) (Or.inl ⟨by rfl, ?_⟩) hS ?_
      rotate_left
      · (intro w _; go_simp; try with_reducible rfl)
      try simp only [List.getElem_toArray, List.getElem_cons_succ, List.getElem_cons_zero, Act.put, List.setIfInBounds_toArray, List.set_cons_zero, List.set_cons_succ]
      refine wpAnyT_take (i := 5) (v := ?_) rfl (by kernel_rfl) (by kernel_rfl) (by kernel_rfl) (fun _ _ _ h => h) (by kernel_rfl) (Or.inl ⟨by rfl, ?_⟩) hS ?_
      rotate_left
      · (intro w hS; obtain ⟨s1, s2, s3, s4, s5, s6, s7, s8⟩ := hS; go_simp; try with_reducible rfl)
      try simp only [List.getElem_toArray, List.getElem_cons_succ, List.getElem_cons_zero, Act.put, List.setIfInBounds_toArray, List.set_cons_zero, List.set_cons_succ]
      refine wpAnyT_one (i := 6) (by kernel_rfl) rfl (fun K hK => ?_)
      go_simp
      refine hr.mono ?_
      rintro e w5 ⟨b5, rfl, hbi, hb5⟩
      have hS5 := HST.out w5 hb5
      have HB5 := Lib.hid hb5
      have HI5 := Lib.hid hbi
      clear hb5 hbi
      go_simp
      replace hS := hS5
      refine hK _ _ (Or.inr hS) ?_
      clear hK K
      try simp only [Array.getInternal_eq_getElem, List.getElem_toArray, List.getElem_cons_succ, List.getElem_cons_zero, Act.put, List.setIfInBounds_toArray, List.set_cons_zero, List.set_cons_succ]
      refine wpAnyT_take (i := 7) (v := ?_) rfl (by kernel_rfl) (by kernel_rfl) (by kernel_rfl) (fun _ _ _ h => h) (by kernel_rfl) (Or.inl ⟨by rfl, ?_⟩) hS ?_
      rotate_left
      · (intro w _; go_simp; try with_reducible rfl)
      try simp only [List.getElem_toArray, List.getElem_cons_succ, List.getElem_cons_zero, Act.put, List.setIfInBounds_toArray, List.set_cons_zero, List.set_cons_succ]
      refine wpAnyT_done (by kernel_rfl) ?_ _
      have HWN : Hid (Below w0.heap.size w0 w5) := Lib.hid (HW.out.trans (Below.undrew (Below.mono HB5.out HW.out.size)))
      clear hS hr hS5
      cases b5 with
      | true =>
        have HI2 : Hid (∀ k y, k < j + 1 → L[k]? = some y → InstOK n cp y) := Lib.hid fun k y hk hy => by
          rcases Nat.lt_succ_iff_lt_or_eq.1 hk with h | h
          · exact HI.out k y h hy
          · subst h; rw [HX.out] at hy; injection hy with hy; subst hy; exact HI5.out.1 rfl
        clear HI HI5
        go_wp2_with fail
        go_roundg (n + 1 - (j + 1))
        case measure => have := HG.out; have := HLT.out; omega
        case rel => exact ⟨j + 1, rfl, by have := HLT.out; omega, by go_num, HWN, HI2⟩
      | false =>
        have hno : ¬ PgOK n st cp L := fun h => by
          have := HI5.out.2 (h.2.2.2.2.2.2.2 x (List.mem_of_getElem? HX.out))
          cases this
        have HNO := Lib.hid hno
        clear hno HI HI5
        go_wp2_with fail
        go_ret
        exact chk_no HNO.out (HB0.out.trans (HWN.out.mono HB0.out.size))
    · have hji : ¬ (j : Int) < (n : Int) := by omega
      have hall : ∀ x ∈ L, InstOK n cp x := fun x hx => by
        obtain ⟨k, hk, rfl⟩ := List.getElem_of_mem hx
        exact HI.out k _ (by have := HA.out.len; omega) (List.getElem?_eq_getElem hk)
      have HF := Lib.hid (HYES.out hall)
      clear hall hlt
      go_wp2_with fail
      go_ret
      exact chk_yes HF.out (HB0.out.trans (HW.out.mono HB0.out.size))
theorem rcheck_any {w : World} {A : Option Addr} {n c : Nat} {st cp : Int} {L : List MI} (hA : PgIn w A n c L) :
    Calls Tryd.prog 12 #[.agg #[.slice A n c, .int .i64 st, .int .i64 cp]] w (ChkB n st cp L w) := by
  by_cases t0 : 1 ≤ n
  case neg => exact rchk_0 hA t0
  by_cases t1 : n ≤ 10000
  case neg => exact rchk_1 hA t0 t1
  by_cases t2 : 0 ≤ st
  case neg => exact rchk_2 hA t0 t1 t2
  by_cases t3 : st < (n : Int)
  case neg => exact rchk_3 hA t0 t1 t2 t3
  by_cases t4 : 2 ≤ cp
  case neg => exact rchk_4 hA t0 t1 t2 t3 t4
  by_cases t5 : cp ≤ 4002
  case neg => exact rchk_5 hA t0 t1 t2 t3 t4 t5
  by_cases t6 : cp % 2 = 0
  case neg => exact rchk_6 hA t0 t1 t2 t3 t4 t5 t6
  exact rchk_loop hA t0 t1 t2 t3 t4 t5 t6
end Go.Proofs.YtbhcgjahlfpjoaaDoor
