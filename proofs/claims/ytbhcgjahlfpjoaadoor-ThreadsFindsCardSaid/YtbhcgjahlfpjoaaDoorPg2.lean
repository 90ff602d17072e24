/- progs.right: the walk, way by way. -/
import Derived.Test.YtbhcgjahlfpjoaaDoorIl1
namespace Go.Proofs.YtbhcgjahlfpjoaaDoor
open Go.RowKit

/-- What right tells. -/
def RightB (N caps : Int) (x : MI) (w : World) (e : Ending) (w' : World) : Prop := ∃ b, e = .returned (.bool b) ∧ (b = true ↔ InstOK N caps x) ∧ Below w.heap.size w w'
theorem rightB_mk {N caps : Int} {x : MI} {w w' : World} {b : Bool} (h : b = true ↔ InstOK N caps x) (hb : Below w.heap.size w w') : RightB N caps x w (.returned (.bool b)) w' := ⟨b, rfl, h, hb⟩
theorem rightC_any {w : World} {A : Option Addr} {n c : Nat} {l : List Rg} (hA : RgIn w A n c l) (hn : n ≤ 1000000) :
    Calls Tryd.prog 56 #[.slice A n c] w fun e w' => ∃ b, e = .returned (.bool b) ∧ (b = true ↔ Canon l) ∧ Below w.heap.size w w' := by
  refine (right_any hA hn).mono ?_
  rintro e w' ⟨⟨s, hs, he⟩, hb⟩
  refine ⟨_, he, ?_, hb⟩
  rw [decide_eq_true_iff]
  exact ⟨fun h => by rw [h]; exact hs.canon, fun h => (SetOf.self h).unique hs fun _ _ _ => Iff.rfl⟩
def AtL : List Int := [1, 2, 4, 8, 16, 32]
theorem atL_iff (a : Int) : a ∈ AtL ↔ (a = 1 ∨ a = 2 ∨ a = 4 ∨ a = 8 ∨ a = 16 ∨ a = 32) := by simp [AtL]

set_option maxRecDepth 20000 in
set_option maxHeartbeats 1000000 in
theorem right_1_0 {w : World} {A A' : Option Addr} {n c n' c' : Nat} {st cp out arg at' : Int} {set : List Rg} (hx : RgIn w A' n' c' set) (_hn : n ≤ maxLen) (_hs : n' ≤ 1000000) (t0 : ¬ out = 0) :
    Calls Tryd.prog 43 #[.agg #[.slice A n c, .int .i64 st, .int .i64 cp], .agg #[.int .i64 1, .int .i64 out, .int .i64 arg, .slice A' n' c', .int .i64 at']] w (RightB n cp ⟨1, out, arg, A', n', c', at', set⟩ w) := by
  have hfin : ¬ InstOK n cp ⟨1, out, arg, A', n', c', at', set⟩ := by
    rintro (⟨h1, h2, h3, h4, h5⟩ | ⟨h1, h2, h3, h4, h5, h6, h7⟩ | ⟨h1, h2, h3, h4, h5, h6, h7⟩ | ⟨h1, h2, h3, h4, h5, h6, h7⟩ | ⟨h1, h2, h3, h4, h5, h6⟩)
    all_goals simp only at *
    all_goals omega
  have hBp : Blk (((w.alloc (.cells #[.slice A n c, .int .i64 st, .int .i64 cp] 28)).alloc (.cells #[.int .i64 1, .int .i64 out, .int .i64 arg, .slice A' n' c', .int .i64 at'] 64)).alloc (.cells #[.int .i64 0, .int .i64 out, .int .i64 arg, .slice A' n' c', .int .i64 at'] 64)) w.heap.size 28 #[.slice A n c, .int .i64 st, .int .i64 cp] := ((Blk.new w _ _).alloc _).alloc _
  have hb : Below w.heap.size w (((w.alloc (.cells #[.slice A n c, .int .i64 st, .int .i64 cp] 28)).alloc (.cells #[.int .i64 1, .int .i64 out, .int .i64 arg, .slice A' n' c', .int .i64 at'] 64)).alloc (.cells #[.int .i64 0, .int .i64 out, .int .i64 arg, .slice A' n' c', .int .i64 at'] 64)) := (((Below.refl _ _).alloc (Nat.le_refl _) _).alloc (by simp) _).alloc (by simp; omega) _
  have hxW := RgIn.below hx hb
  have d0 : (out == 0) = false := beq_eq_false_iff_ne.2 (by omega)
  have HB := Lib.hid hb
  have HF := Lib.hid hfin
  have eg : ∀ args w, (callFunc 55 args).run Tryd.prog w = .ok (.enter 55 args) w := enters_of Tryd.func55 (by kernel_rfl) rfl
  clear hfin hxW hBp hx hb t0
  go_enter Tryd.func43, Tryd.ntmps43
  go_wp2_with fail
  go_ret
  exact rightB_mk ⟨fun h => (by cases h), fun h => absurd h HF.out⟩ HB.out
set_option maxRecDepth 20000 in
set_option maxHeartbeats 1000000 in
theorem right_1_1 {w : World} {A A' : Option Addr} {n c n' c' : Nat} {st cp out arg at' : Int} {set : List Rg} (hx : RgIn w A' n' c' set) (_hn : n ≤ maxLen) (_hs : n' ≤ 1000000) (t0 : out = 0) (t1 : ¬ arg = 0) :
    Calls Tryd.prog 43 #[.agg #[.slice A n c, .int .i64 st, .int .i64 cp], .agg #[.int .i64 1, .int .i64 out, .int .i64 arg, .slice A' n' c', .int .i64 at']] w (RightB n cp ⟨1, out, arg, A', n', c', at', set⟩ w) := by
  have hfin : ¬ InstOK n cp ⟨1, out, arg, A', n', c', at', set⟩ := by
    rintro (⟨h1, h2, h3, h4, h5⟩ | ⟨h1, h2, h3, h4, h5, h6, h7⟩ | ⟨h1, h2, h3, h4, h5, h6, h7⟩ | ⟨h1, h2, h3, h4, h5, h6, h7⟩ | ⟨h1, h2, h3, h4, h5, h6⟩)
    all_goals simp only at *
    all_goals omega
  have hBp : Blk (((w.alloc (.cells #[.slice A n c, .int .i64 st, .int .i64 cp] 28)).alloc (.cells #[.int .i64 1, .int .i64 out, .int .i64 arg, .slice A' n' c', .int .i64 at'] 64)).alloc (.cells #[.int .i64 0, .int .i64 out, .int .i64 arg, .slice A' n' c', .int .i64 at'] 64)) w.heap.size 28 #[.slice A n c, .int .i64 st, .int .i64 cp] := ((Blk.new w _ _).alloc _).alloc _
  have hb : Below w.heap.size w (((w.alloc (.cells #[.slice A n c, .int .i64 st, .int .i64 cp] 28)).alloc (.cells #[.int .i64 1, .int .i64 out, .int .i64 arg, .slice A' n' c', .int .i64 at'] 64)).alloc (.cells #[.int .i64 0, .int .i64 out, .int .i64 arg, .slice A' n' c', .int .i64 at'] 64)) := (((Below.refl _ _).alloc (Nat.le_refl _) _).alloc (by simp) _).alloc (by simp; omega) _
  have hxW := RgIn.below hx hb
  have d0 : (out == 0) = true := beq_iff_eq.2 (by omega)
  have d1 : (arg == 0) = false := beq_eq_false_iff_ne.2 (by omega)
  have HB := Lib.hid hb
  have HF := Lib.hid hfin
  have eg : ∀ args w, (callFunc 55 args).run Tryd.prog w = .ok (.enter 55 args) w := enters_of Tryd.func55 (by kernel_rfl) rfl
  clear hfin hxW hBp hx hb t0 t1
  go_enter Tryd.func43, Tryd.ntmps43
  go_wp2_with fail
  go_ret
  exact rightB_mk ⟨fun h => (by cases h), fun h => absurd h HF.out⟩ HB.out
set_option maxRecDepth 20000 in
set_option maxHeartbeats 1000000 in
theorem right_1_2 {w : World} {A A' : Option Addr} {n c n' c' : Nat} {st cp out arg at' : Int} {set : List Rg} (hx : RgIn w A' n' c' set) (_hn : n ≤ maxLen) (_hs : n' ≤ 1000000) (t0 : out = 0) (t1 : arg = 0) (t2 : ¬ at' = 0) :
    Calls Tryd.prog 43 #[.agg #[.slice A n c, .int .i64 st, .int .i64 cp], .agg #[.int .i64 1, .int .i64 out, .int .i64 arg, .slice A' n' c', .int .i64 at']] w (RightB n cp ⟨1, out, arg, A', n', c', at', set⟩ w) := by
  have hfin : ¬ InstOK n cp ⟨1, out, arg, A', n', c', at', set⟩ := by
    rintro (⟨h1, h2, h3, h4, h5⟩ | ⟨h1, h2, h3, h4, h5, h6, h7⟩ | ⟨h1, h2, h3, h4, h5, h6, h7⟩ | ⟨h1, h2, h3, h4, h5, h6, h7⟩ | ⟨h1, h2, h3, h4, h5, h6⟩)
    all_goals simp only at *
    all_goals omega
  have hBp : Blk (((w.alloc (.cells #[.slice A n c, .int .i64 st, .int .i64 cp] 28)).alloc (.cells #[.int .i64 1, .int .i64 out, .int .i64 arg, .slice A' n' c', .int .i64 at'] 64)).alloc (.cells #[.int .i64 0, .int .i64 out, .int .i64 arg, .slice A' n' c', .int .i64 at'] 64)) w.heap.size 28 #[.slice A n c, .int .i64 st, .int .i64 cp] := ((Blk.new w _ _).alloc _).alloc _
  have hb : Below w.heap.size w (((w.alloc (.cells #[.slice A n c, .int .i64 st, .int .i64 cp] 28)).alloc (.cells #[.int .i64 1, .int .i64 out, .int .i64 arg, .slice A' n' c', .int .i64 at'] 64)).alloc (.cells #[.int .i64 0, .int .i64 out, .int .i64 arg, .slice A' n' c', .int .i64 at'] 64)) := (((Below.refl _ _).alloc (Nat.le_refl _) _).alloc (by simp) _).alloc (by simp; omega) _
  have hxW := RgIn.below hx hb
  have d0 : (out == 0) = true := beq_iff_eq.2 (by omega)
  have d1 : (arg == 0) = true := beq_iff_eq.2 (by omega)
  have d2 : (at' == 0) = false := beq_eq_false_iff_ne.2 (by omega)
  have HB := Lib.hid hb
  have HF := Lib.hid hfin
  have eg : ∀ args w, (callFunc 55 args).run Tryd.prog w = .ok (.enter 55 args) w := enters_of Tryd.func55 (by kernel_rfl) rfl
  clear hfin hxW hBp hx hb t0 t1 t2
  go_enter Tryd.func43, Tryd.ntmps43
  go_wp2_with fail
  go_ret
  exact rightB_mk ⟨fun h => (by cases h), fun h => absurd h HF.out⟩ HB.out
set_option maxRecDepth 20000 in
set_option maxHeartbeats 1000000 in
theorem right_1_3 {w : World} {A A' : Option Addr} {n c n' c' : Nat} {st cp out arg at' : Int} {set : List Rg} (hx : RgIn w A' n' c' set) (_hn : n ≤ maxLen) (_hs : n' ≤ 1000000) (t0 : out = 0) (t1 : arg = 0) (t2 : at' = 0) (t3 : ¬ n' = 0) :
    Calls Tryd.prog 43 #[.agg #[.slice A n c, .int .i64 st, .int .i64 cp], .agg #[.int .i64 1, .int .i64 out, .int .i64 arg, .slice A' n' c', .int .i64 at']] w (RightB n cp ⟨1, out, arg, A', n', c', at', set⟩ w) := by
  have hfin : ¬ InstOK n cp ⟨1, out, arg, A', n', c', at', set⟩ := by
    rintro (⟨h1, h2, h3, h4, h5⟩ | ⟨h1, h2, h3, h4, h5, h6, h7⟩ | ⟨h1, h2, h3, h4, h5, h6, h7⟩ | ⟨h1, h2, h3, h4, h5, h6, h7⟩ | ⟨h1, h2, h3, h4, h5, h6⟩)
    all_goals simp only at *
    all_goals omega
  have hBp : Blk (((w.alloc (.cells #[.slice A n c, .int .i64 st, .int .i64 cp] 28)).alloc (.cells #[.int .i64 1, .int .i64 out, .int .i64 arg, .slice A' n' c', .int .i64 at'] 64)).alloc (.cells #[.int .i64 0, .int .i64 out, .int .i64 arg, .slice A' n' c', .int .i64 at'] 64)) w.heap.size 28 #[.slice A n c, .int .i64 st, .int .i64 cp] := ((Blk.new w _ _).alloc _).alloc _
  have hb : Below w.heap.size w (((w.alloc (.cells #[.slice A n c, .int .i64 st, .int .i64 cp] 28)).alloc (.cells #[.int .i64 1, .int .i64 out, .int .i64 arg, .slice A' n' c', .int .i64 at'] 64)).alloc (.cells #[.int .i64 0, .int .i64 out, .int .i64 arg, .slice A' n' c', .int .i64 at'] 64)) := (((Below.refl _ _).alloc (Nat.le_refl _) _).alloc (by simp) _).alloc (by simp; omega) _
  have hxW := RgIn.below hx hb
  have d0 : (out == 0) = true := beq_iff_eq.2 (by omega)
  have d1 : (arg == 0) = true := beq_iff_eq.2 (by omega)
  have d2 : (at' == 0) = true := beq_iff_eq.2 (by omega)
  have d3 : ((n' : Int) == 0) = false := beq_eq_false_iff_ne.2 (by omega)
  have HB := Lib.hid hb
  have HF := Lib.hid hfin
  have eg : ∀ args w, (callFunc 55 args).run Tryd.prog w = .ok (.enter 55 args) w := enters_of Tryd.func55 (by kernel_rfl) rfl
  clear hfin hxW hBp hx hb t0 t1 t2 t3
  go_enter Tryd.func43, Tryd.ntmps43
  go_wp2_with fail
  go_ret
  exact rightB_mk ⟨fun h => (by cases h), fun h => absurd h HF.out⟩ HB.out
set_option maxRecDepth 20000 in
set_option maxHeartbeats 1000000 in
theorem right_1_4 {w : World} {A A' : Option Addr} {n c n' c' : Nat} {st cp out arg at' : Int} {set : List Rg} (hx : RgIn w A' n' c' set) (_hn : n ≤ maxLen) (_hs : n' ≤ 1000000) (t0 : out = 0) (t1 : arg = 0) (t2 : at' = 0) (t3 : n' = 0) :
    Calls Tryd.prog 43 #[.agg #[.slice A n c, .int .i64 st, .int .i64 cp], .agg #[.int .i64 1, .int .i64 out, .int .i64 arg, .slice A' n' c', .int .i64 at']] w (RightB n cp ⟨1, out, arg, A', n', c', at', set⟩ w) := by
  have hfin : InstOK n cp ⟨1, out, arg, A', n', c', at', set⟩ := .inl ⟨.inl rfl, t0, t1, t3, t2⟩
  have hBp : Blk (((w.alloc (.cells #[.slice A n c, .int .i64 st, .int .i64 cp] 28)).alloc (.cells #[.int .i64 1, .int .i64 out, .int .i64 arg, .slice A' n' c', .int .i64 at'] 64)).alloc (.cells #[.int .i64 0, .int .i64 out, .int .i64 arg, .slice A' n' c', .int .i64 at'] 64)) w.heap.size 28 #[.slice A n c, .int .i64 st, .int .i64 cp] := ((Blk.new w _ _).alloc _).alloc _
  have hb : Below w.heap.size w (((w.alloc (.cells #[.slice A n c, .int .i64 st, .int .i64 cp] 28)).alloc (.cells #[.int .i64 1, .int .i64 out, .int .i64 arg, .slice A' n' c', .int .i64 at'] 64)).alloc (.cells #[.int .i64 0, .int .i64 out, .int .i64 arg, .slice A' n' c', .int .i64 at'] 64)) := (((Below.refl _ _).alloc (Nat.le_refl _) _).alloc (by simp) _).alloc (by simp; omega) _
  have hxW := RgIn.below hx hb
  have d0 : (out == 0) = true := beq_iff_eq.2 (by omega)
  have d1 : (arg == 0) = true := beq_iff_eq.2 (by omega)
  have d2 : (at' == 0) = true := beq_iff_eq.2 (by omega)
  have d3 : ((n' : Int) == 0) = true := beq_iff_eq.2 (by omega)
  have HB := Lib.hid hb
  have HF := Lib.hid hfin
  have eg : ∀ args w, (callFunc 55 args).run Tryd.prog w = .ok (.enter 55 args) w := enters_of Tryd.func55 (by kernel_rfl) rfl
  clear hfin hxW hBp hx hb t0 t1 t2 t3
  go_enter Tryd.func43, Tryd.ntmps43
  go_wp2_with fail
  go_ret
  exact rightB_mk ⟨fun _ => HF.out, fun _ => rfl⟩ HB.out
set_option maxRecDepth 20000 in
set_option maxHeartbeats 1000000 in
theorem right_6_0 {w : World} {A A' : Option Addr} {n c n' c' : Nat} {st cp out arg at' : Int} {set : List Rg} (hx : RgIn w A' n' c' set) (_hn : n ≤ maxLen) (_hs : n' ≤ 1000000) (t0 : ¬ out = 0) :
    Calls Tryd.prog 43 #[.agg #[.slice A n c, .int .i64 st, .int .i64 cp], .agg #[.int .i64 6, .int .i64 out, .int .i64 arg, .slice A' n' c', .int .i64 at']] w (RightB n cp ⟨6, out, arg, A', n', c', at', set⟩ w) := by
  have hfin : ¬ InstOK n cp ⟨6, out, arg, A', n', c', at', set⟩ := by
    rintro (⟨h1, h2, h3, h4, h5⟩ | ⟨h1, h2, h3, h4, h5, h6, h7⟩ | ⟨h1, h2, h3, h4, h5, h6, h7⟩ | ⟨h1, h2, h3, h4, h5, h6, h7⟩ | ⟨h1, h2, h3, h4, h5, h6⟩)
    all_goals simp only at *
    all_goals omega
  have hBp : Blk (((w.alloc (.cells #[.slice A n c, .int .i64 st, .int .i64 cp] 28)).alloc (.cells #[.int .i64 6, .int .i64 out, .int .i64 arg, .slice A' n' c', .int .i64 at'] 64)).alloc (.cells #[.int .i64 0, .int .i64 out, .int .i64 arg, .slice A' n' c', .int .i64 at'] 64)) w.heap.size 28 #[.slice A n c, .int .i64 st, .int .i64 cp] := ((Blk.new w _ _).alloc _).alloc _
  have hb : Below w.heap.size w (((w.alloc (.cells #[.slice A n c, .int .i64 st, .int .i64 cp] 28)).alloc (.cells #[.int .i64 6, .int .i64 out, .int .i64 arg, .slice A' n' c', .int .i64 at'] 64)).alloc (.cells #[.int .i64 0, .int .i64 out, .int .i64 arg, .slice A' n' c', .int .i64 at'] 64)) := (((Below.refl _ _).alloc (Nat.le_refl _) _).alloc (by simp) _).alloc (by simp; omega) _
  have hxW := RgIn.below hx hb
  have d0 : (out == 0) = false := beq_eq_false_iff_ne.2 (by omega)
  have HB := Lib.hid hb
  have HF := Lib.hid hfin
  have eg : ∀ args w, (callFunc 55 args).run Tryd.prog w = .ok (.enter 55 args) w := enters_of Tryd.func55 (by kernel_rfl) rfl
  clear hfin hxW hBp hx hb t0
  go_enter Tryd.func43, Tryd.ntmps43
  go_wp2_with fail
  go_ret
  exact rightB_mk ⟨fun h => (by cases h), fun h => absurd h HF.out⟩ HB.out
set_option maxRecDepth 20000 in
set_option maxHeartbeats 1000000 in
theorem right_6_1 {w : World} {A A' : Option Addr} {n c n' c' : Nat} {st cp out arg at' : Int} {set : List Rg} (hx : RgIn w A' n' c' set) (_hn : n ≤ maxLen) (_hs : n' ≤ 1000000) (t0 : out = 0) (t1 : ¬ arg = 0) :
    Calls Tryd.prog 43 #[.agg #[.slice A n c, .int .i64 st, .int .i64 cp], .agg #[.int .i64 6, .int .i64 out, .int .i64 arg, .slice A' n' c', .int .i64 at']] w (RightB n cp ⟨6, out, arg, A', n', c', at', set⟩ w) := by
  have hfin : ¬ InstOK n cp ⟨6, out, arg, A', n', c', at', set⟩ := by
    rintro (⟨h1, h2, h3, h4, h5⟩ | ⟨h1, h2, h3, h4, h5, h6, h7⟩ | ⟨h1, h2, h3, h4, h5, h6, h7⟩ | ⟨h1, h2, h3, h4, h5, h6, h7⟩ | ⟨h1, h2, h3, h4, h5, h6⟩)
    all_goals simp only at *
    all_goals omega
  have hBp : Blk (((w.alloc (.cells #[.slice A n c, .int .i64 st, .int .i64 cp] 28)).alloc (.cells #[.int .i64 6, .int .i64 out, .int .i64 arg, .slice A' n' c', .int .i64 at'] 64)).alloc (.cells #[.int .i64 0, .int .i64 out, .int .i64 arg, .slice A' n' c', .int .i64 at'] 64)) w.heap.size 28 #[.slice A n c, .int .i64 st, .int .i64 cp] := ((Blk.new w _ _).alloc _).alloc _
  have hb : Below w.heap.size w (((w.alloc (.cells #[.slice A n c, .int .i64 st, .int .i64 cp] 28)).alloc (.cells #[.int .i64 6, .int .i64 out, .int .i64 arg, .slice A' n' c', .int .i64 at'] 64)).alloc (.cells #[.int .i64 0, .int .i64 out, .int .i64 arg, .slice A' n' c', .int .i64 at'] 64)) := (((Below.refl _ _).alloc (Nat.le_refl _) _).alloc (by simp) _).alloc (by simp; omega) _
  have hxW := RgIn.below hx hb
  have d0 : (out == 0) = true := beq_iff_eq.2 (by omega)
  have d1 : (arg == 0) = false := beq_eq_false_iff_ne.2 (by omega)
  have HB := Lib.hid hb
  have HF := Lib.hid hfin
  have eg : ∀ args w, (callFunc 55 args).run Tryd.prog w = .ok (.enter 55 args) w := enters_of Tryd.func55 (by kernel_rfl) rfl
  clear hfin hxW hBp hx hb t0 t1
  go_enter Tryd.func43, Tryd.ntmps43
  go_wp2_with fail
  go_ret
  exact rightB_mk ⟨fun h => (by cases h), fun h => absurd h HF.out⟩ HB.out
set_option maxRecDepth 20000 in
set_option maxHeartbeats 1000000 in
theorem right_6_2 {w : World} {A A' : Option Addr} {n c n' c' : Nat} {st cp out arg at' : Int} {set : List Rg} (hx : RgIn w A' n' c' set) (_hn : n ≤ maxLen) (_hs : n' ≤ 1000000) (t0 : out = 0) (t1 : arg = 0) (t2 : ¬ at' = 0) :
    Calls Tryd.prog 43 #[.agg #[.slice A n c, .int .i64 st, .int .i64 cp], .agg #[.int .i64 6, .int .i64 out, .int .i64 arg, .slice A' n' c', .int .i64 at']] w (RightB n cp ⟨6, out, arg, A', n', c', at', set⟩ w) := by
  have hfin : ¬ InstOK n cp ⟨6, out, arg, A', n', c', at', set⟩ := by
    rintro (⟨h1, h2, h3, h4, h5⟩ | ⟨h1, h2, h3, h4, h5, h6, h7⟩ | ⟨h1, h2, h3, h4, h5, h6, h7⟩ | ⟨h1, h2, h3, h4, h5, h6, h7⟩ | ⟨h1, h2, h3, h4, h5, h6⟩)
    all_goals simp only at *
    all_goals omega
  have hBp : Blk (((w.alloc (.cells #[.slice A n c, .int .i64 st, .int .i64 cp] 28)).alloc (.cells #[.int .i64 6, .int .i64 out, .int .i64 arg, .slice A' n' c', .int .i64 at'] 64)).alloc (.cells #[.int .i64 0, .int .i64 out, .int .i64 arg, .slice A' n' c', .int .i64 at'] 64)) w.heap.size 28 #[.slice A n c, .int .i64 st, .int .i64 cp] := ((Blk.new w _ _).alloc _).alloc _
  have hb : Below w.heap.size w (((w.alloc (.cells #[.slice A n c, .int .i64 st, .int .i64 cp] 28)).alloc (.cells #[.int .i64 6, .int .i64 out, .int .i64 arg, .slice A' n' c', .int .i64 at'] 64)).alloc (.cells #[.int .i64 0, .int .i64 out, .int .i64 arg, .slice A' n' c', .int .i64 at'] 64)) := (((Below.refl _ _).alloc (Nat.le_refl _) _).alloc (by simp) _).alloc (by simp; omega) _
  have hxW := RgIn.below hx hb
  have d0 : (out == 0) = true := beq_iff_eq.2 (by omega)
  have d1 : (arg == 0) = true := beq_iff_eq.2 (by omega)
  have d2 : (at' == 0) = false := beq_eq_false_iff_ne.2 (by omega)
  have HB := Lib.hid hb
  have HF := Lib.hid hfin
  have eg : ∀ args w, (callFunc 55 args).run Tryd.prog w = .ok (.enter 55 args) w := enters_of Tryd.func55 (by kernel_rfl) rfl
  clear hfin hxW hBp hx hb t0 t1 t2
  go_enter Tryd.func43, Tryd.ntmps43
  go_wp2_with fail
  go_ret
  exact rightB_mk ⟨fun h => (by cases h), fun h => absurd h HF.out⟩ HB.out
set_option maxRecDepth 20000 in
set_option maxHeartbeats 1000000 in
theorem right_6_3 {w : World} {A A' : Option Addr} {n c n' c' : Nat} {st cp out arg at' : Int} {set : List Rg} (hx : RgIn w A' n' c' set) (_hn : n ≤ maxLen) (_hs : n' ≤ 1000000) (t0 : out = 0) (t1 : arg = 0) (t2 : at' = 0) (t3 : ¬ n' = 0) :
    Calls Tryd.prog 43 #[.agg #[.slice A n c, .int .i64 st, .int .i64 cp], .agg #[.int .i64 6, .int .i64 out, .int .i64 arg, .slice A' n' c', .int .i64 at']] w (RightB n cp ⟨6, out, arg, A', n', c', at', set⟩ w) := by
  have hfin : ¬ InstOK n cp ⟨6, out, arg, A', n', c', at', set⟩ := by
    rintro (⟨h1, h2, h3, h4, h5⟩ | ⟨h1, h2, h3, h4, h5, h6, h7⟩ | ⟨h1, h2, h3, h4, h5, h6, h7⟩ | ⟨h1, h2, h3, h4, h5, h6, h7⟩ | ⟨h1, h2, h3, h4, h5, h6⟩)
    all_goals simp only at *
    all_goals omega
  have hBp : Blk (((w.alloc (.cells #[.slice A n c, .int .i64 st, .int .i64 cp] 28)).alloc (.cells #[.int .i64 6, .int .i64 out, .int .i64 arg, .slice A' n' c', .int .i64 at'] 64)).alloc (.cells #[.int .i64 0, .int .i64 out, .int .i64 arg, .slice A' n' c', .int .i64 at'] 64)) w.heap.size 28 #[.slice A n c, .int .i64 st, .int .i64 cp] := ((Blk.new w _ _).alloc _).alloc _
  have hb : Below w.heap.size w (((w.alloc (.cells #[.slice A n c, .int .i64 st, .int .i64 cp] 28)).alloc (.cells #[.int .i64 6, .int .i64 out, .int .i64 arg, .slice A' n' c', .int .i64 at'] 64)).alloc (.cells #[.int .i64 0, .int .i64 out, .int .i64 arg, .slice A' n' c', .int .i64 at'] 64)) := (((Below.refl _ _).alloc (Nat.le_refl _) _).alloc (by simp) _).alloc (by simp; omega) _
  have hxW := RgIn.below hx hb
  have d0 : (out == 0) = true := beq_iff_eq.2 (by omega)
  have d1 : (arg == 0) = true := beq_iff_eq.2 (by omega)
  have d2 : (at' == 0) = true := beq_iff_eq.2 (by omega)
  have d3 : ((n' : Int) == 0) = false := beq_eq_false_iff_ne.2 (by omega)
  have HB := Lib.hid hb
  have HF := Lib.hid hfin
  have eg : ∀ args w, (callFunc 55 args).run Tryd.prog w = .ok (.enter 55 args) w := enters_of Tryd.func55 (by kernel_rfl) rfl
  clear hfin hxW hBp hx hb t0 t1 t2 t3
  go_enter Tryd.func43, Tryd.ntmps43
  go_wp2_with fail
  go_ret
  exact rightB_mk ⟨fun h => (by cases h), fun h => absurd h HF.out⟩ HB.out
set_option maxRecDepth 20000 in
set_option maxHeartbeats 1000000 in
theorem right_6_4 {w : World} {A A' : Option Addr} {n c n' c' : Nat} {st cp out arg at' : Int} {set : List Rg} (hx : RgIn w A' n' c' set) (_hn : n ≤ maxLen) (_hs : n' ≤ 1000000) (t0 : out = 0) (t1 : arg = 0) (t2 : at' = 0) (t3 : n' = 0) :
    Calls Tryd.prog 43 #[.agg #[.slice A n c, .int .i64 st, .int .i64 cp], .agg #[.int .i64 6, .int .i64 out, .int .i64 arg, .slice A' n' c', .int .i64 at']] w (RightB n cp ⟨6, out, arg, A', n', c', at', set⟩ w) := by
  have hfin : InstOK n cp ⟨6, out, arg, A', n', c', at', set⟩ := .inl ⟨.inr rfl, t0, t1, t3, t2⟩
  have hBp : Blk (((w.alloc (.cells #[.slice A n c, .int .i64 st, .int .i64 cp] 28)).alloc (.cells #[.int .i64 6, .int .i64 out, .int .i64 arg, .slice A' n' c', .int .i64 at'] 64)).alloc (.cells #[.int .i64 0, .int .i64 out, .int .i64 arg, .slice A' n' c', .int .i64 at'] 64)) w.heap.size 28 #[.slice A n c, .int .i64 st, .int .i64 cp] := ((Blk.new w _ _).alloc _).alloc _
  have hb : Below w.heap.size w (((w.alloc (.cells #[.slice A n c, .int .i64 st, .int .i64 cp] 28)).alloc (.cells #[.int .i64 6, .int .i64 out, .int .i64 arg, .slice A' n' c', .int .i64 at'] 64)).alloc (.cells #[.int .i64 0, .int .i64 out, .int .i64 arg, .slice A' n' c', .int .i64 at'] 64)) := (((Below.refl _ _).alloc (Nat.le_refl _) _).alloc (by simp) _).alloc (by simp; omega) _
  have hxW := RgIn.below hx hb
  have d0 : (out == 0) = true := beq_iff_eq.2 (by omega)
  have d1 : (arg == 0) = true := beq_iff_eq.2 (by omega)
  have d2 : (at' == 0) = true := beq_iff_eq.2 (by omega)
  have d3 : ((n' : Int) == 0) = true := beq_iff_eq.2 (by omega)
  have HB := Lib.hid hb
  have HF := Lib.hid hfin
  have eg : ∀ args w, (callFunc 55 args).run Tryd.prog w = .ok (.enter 55 args) w := enters_of Tryd.func55 (by kernel_rfl) rfl
  clear hfin hxW hBp hx hb t0 t1 t2 t3
  go_enter Tryd.func43, Tryd.ntmps43
  go_wp2_with fail
  go_ret
  exact rightB_mk ⟨fun _ => HF.out, fun _ => rfl⟩ HB.out
set_option maxRecDepth 20000 in
set_option maxHeartbeats 1000000 in
theorem right_2_0 {w : World} {A A' : Option Addr} {n c n' c' : Nat} {st cp out arg at' : Int} {set : List Rg} (hx : RgIn w A' n' c' set) (hn : n ≤ maxLen) (_hs : n' ≤ 1000000) (t0 : ¬ (0 ≤ out ∧ out < (n : Int))) :
    Calls Tryd.prog 43 #[.agg #[.slice A n c, .int .i64 st, .int .i64 cp], .agg #[.int .i64 2, .int .i64 out, .int .i64 arg, .slice A' n' c', .int .i64 at']] w (RightB n cp ⟨2, out, arg, A', n', c', at', set⟩ w) := by
  have hfin : ¬ InstOK n cp ⟨2, out, arg, A', n', c', at', set⟩ := by
    rintro (⟨h1, h2, h3, h4, h5⟩ | ⟨h1, h2, h3, h4, h5, h6, h7⟩ | ⟨h1, h2, h3, h4, h5, h6, h7⟩ | ⟨h1, h2, h3, h4, h5, h6, h7⟩ | ⟨h1, h2, h3, h4, h5, h6⟩)
    all_goals simp only at *
    all_goals omega
  have hBp : Blk (((w.alloc (.cells #[.slice A n c, .int .i64 st, .int .i64 cp] 28)).alloc (.cells #[.int .i64 2, .int .i64 out, .int .i64 arg, .slice A' n' c', .int .i64 at'] 64)).alloc (.cells #[.int .i64 0, .int .i64 out, .int .i64 arg, .slice A' n' c', .int .i64 at'] 64)) w.heap.size 28 #[.slice A n c, .int .i64 st, .int .i64 cp] := ((Blk.new w _ _).alloc _).alloc _
  have hb : Below w.heap.size w (((w.alloc (.cells #[.slice A n c, .int .i64 st, .int .i64 cp] 28)).alloc (.cells #[.int .i64 2, .int .i64 out, .int .i64 arg, .slice A' n' c', .int .i64 at'] 64)).alloc (.cells #[.int .i64 0, .int .i64 out, .int .i64 arg, .slice A' n' c', .int .i64 at'] 64)) := (((Below.refl _ _).alloc (Nat.le_refl _) _).alloc (by simp) _).alloc (by simp; omega) _
  have hxW := RgIn.below hx hb
  have q0 : hereB n out = false := hereF t0
  have cH := fun pc => here_any hBp hn pc
  have HB := Lib.hid hb
  have HF := Lib.hid hfin
  have eg : ∀ args w, (callFunc 55 args).run Tryd.prog w = .ok (.enter 55 args) w := enters_of Tryd.func55 (by kernel_rfl) rfl
  clear hfin hxW hBp hx hb t0
  go_enter Tryd.func43, Tryd.ntmps43
  go_wp2_with (go_at_fn 55; refine (cH _).mono ?_; rintro e w' ⟨rfl, rfl⟩)
  go_ret
  exact rightB_mk ⟨fun h => (by cases h), fun h => absurd h HF.out⟩ HB.out
set_option maxRecDepth 20000 in
set_option maxHeartbeats 1000000 in
theorem right_2_1 {w : World} {A A' : Option Addr} {n c n' c' : Nat} {st cp out arg at' : Int} {set : List Rg} (hx : RgIn w A' n' c' set) (hn : n ≤ maxLen) (_hs : n' ≤ 1000000) (t0 : 0 ≤ out ∧ out < (n : Int)) (t1 : n' = 0) :
    Calls Tryd.prog 43 #[.agg #[.slice A n c, .int .i64 st, .int .i64 cp], .agg #[.int .i64 2, .int .i64 out, .int .i64 arg, .slice A' n' c', .int .i64 at']] w (RightB n cp ⟨2, out, arg, A', n', c', at', set⟩ w) := by
  have hfin : ¬ InstOK n cp ⟨2, out, arg, A', n', c', at', set⟩ := by
    rintro (⟨h1, h2, h3, h4, h5⟩ | ⟨h1, h2, h3, h4, h5, h6, h7⟩ | ⟨h1, h2, h3, h4, h5, h6, h7⟩ | ⟨h1, h2, h3, h4, h5, h6, h7⟩ | ⟨h1, h2, h3, h4, h5, h6⟩)
    all_goals simp only at *
    all_goals omega
  have hBp : Blk (((w.alloc (.cells #[.slice A n c, .int .i64 st, .int .i64 cp] 28)).alloc (.cells #[.int .i64 2, .int .i64 out, .int .i64 arg, .slice A' n' c', .int .i64 at'] 64)).alloc (.cells #[.int .i64 0, .int .i64 out, .int .i64 arg, .slice A' n' c', .int .i64 at'] 64)) w.heap.size 28 #[.slice A n c, .int .i64 st, .int .i64 cp] := ((Blk.new w _ _).alloc _).alloc _
  have hb : Below w.heap.size w (((w.alloc (.cells #[.slice A n c, .int .i64 st, .int .i64 cp] 28)).alloc (.cells #[.int .i64 2, .int .i64 out, .int .i64 arg, .slice A' n' c', .int .i64 at'] 64)).alloc (.cells #[.int .i64 0, .int .i64 out, .int .i64 arg, .slice A' n' c', .int .i64 at'] 64)) := (((Below.refl _ _).alloc (Nat.le_refl _) _).alloc (by simp) _).alloc (by simp; omega) _
  have hxW := RgIn.below hx hb
  have q0 : hereB n out = true := hereT t0
  have cH := fun pc => here_any hBp hn pc
  have d1 : ((n' : Int) == 0) = true := beq_iff_eq.2 (by omega)
  have HB := Lib.hid hb
  have HF := Lib.hid hfin
  have eg : ∀ args w, (callFunc 55 args).run Tryd.prog w = .ok (.enter 55 args) w := enters_of Tryd.func55 (by kernel_rfl) rfl
  clear hfin hxW hBp hx hb t0 t1
  go_enter Tryd.func43, Tryd.ntmps43
  go_wp2_with (go_at_fn 55; refine (cH _).mono ?_; rintro e w' ⟨rfl, rfl⟩)
  go_ret
  exact rightB_mk ⟨fun h => (by cases h), fun h => absurd h HF.out⟩ HB.out
set_option maxRecDepth 20000 in
set_option maxHeartbeats 1000000 in
theorem right_2_2 {w : World} {A A' : Option Addr} {n c n' c' : Nat} {st cp out arg at' : Int} {set : List Rg} (hx : RgIn w A' n' c' set) (hn : n ≤ maxLen) (hs : n' ≤ 1000000) (t0 : 0 ≤ out ∧ out < (n : Int)) (t1 : 0 < n') (t2 : ¬ Canon set) :
    Calls Tryd.prog 43 #[.agg #[.slice A n c, .int .i64 st, .int .i64 cp], .agg #[.int .i64 2, .int .i64 out, .int .i64 arg, .slice A' n' c', .int .i64 at']] w (RightB n cp ⟨2, out, arg, A', n', c', at', set⟩ w) := by
  have hfin : ¬ InstOK n cp ⟨2, out, arg, A', n', c', at', set⟩ := by
    rintro (⟨h1, h2, h3, h4, h5⟩ | ⟨h1, h2, h3, h4, h5, h6, h7⟩ | ⟨h1, h2, h3, h4, h5, h6, h7⟩ | ⟨h1, h2, h3, h4, h5, h6, h7⟩ | ⟨h1, h2, h3, h4, h5, h6⟩)
    all_goals simp only at *
    all_goals first | omega | exact t2 h6
  have hBp : Blk (((w.alloc (.cells #[.slice A n c, .int .i64 st, .int .i64 cp] 28)).alloc (.cells #[.int .i64 2, .int .i64 out, .int .i64 arg, .slice A' n' c', .int .i64 at'] 64)).alloc (.cells #[.int .i64 0, .int .i64 out, .int .i64 arg, .slice A' n' c', .int .i64 at'] 64)) w.heap.size 28 #[.slice A n c, .int .i64 st, .int .i64 cp] := ((Blk.new w _ _).alloc _).alloc _
  have hb : Below w.heap.size w (((w.alloc (.cells #[.slice A n c, .int .i64 st, .int .i64 cp] 28)).alloc (.cells #[.int .i64 2, .int .i64 out, .int .i64 arg, .slice A' n' c', .int .i64 at'] 64)).alloc (.cells #[.int .i64 0, .int .i64 out, .int .i64 arg, .slice A' n' c', .int .i64 at'] 64)) := (((Below.refl _ _).alloc (Nat.le_refl _) _).alloc (by simp) _).alloc (by simp; omega) _
  have hxW := RgIn.below hx hb
  have q0 : hereB n out = true := hereT t0
  have cH := fun pc => here_any hBp hn pc
  have d1 : ((n' : Int) == 0) = false := beq_eq_false_iff_ne.2 (by omega)
  have cR := rightC_any hxW hs
  have hBb : Blk (((w.alloc (.cells #[.slice A n c, .int .i64 st, .int .i64 cp] 28)).alloc (.cells #[.int .i64 2, .int .i64 out, .int .i64 arg, .slice A' n' c', .int .i64 at'] 64)).alloc (.cells #[.int .i64 0, .int .i64 out, .int .i64 arg, .slice A' n' c', .int .i64 at'] 64)) (w.heap.size + 2) 64 #[.int .i64 0, .int .i64 out, .int .i64 arg, .slice A' n' c', .int .i64 at'] := by
    have := Blk.new ((w.alloc (.cells #[.slice A n c, .int .i64 st, .int .i64 cp] 28)).alloc (.cells #[.int .i64 2, .int .i64 out, .int .i64 arg, .slice A' n' c', .int .i64 at'] 64)) 64 #[.int .i64 0, .int .i64 out, .int .i64 arg, .slice A' n' c', .int .i64 at']
    simpa using this
  have HBb := Lib.hid hBb
  clear hBb
  have HB := Lib.hid hb
  have HF := Lib.hid hfin
  have eg : ∀ args w, (callFunc 55 args).run Tryd.prog w = .ok (.enter 55 args) w := enters_of Tryd.func55 (by kernel_rfl) rfl
  clear hfin hxW hBp hx hb t0 t1
  go_enter Tryd.func43, Tryd.ntmps43
  go_wp2_with (first | (go_at_fn 55; refine (cH _).mono ?_; rintro e w' ⟨rfl, rfl⟩) | (go_at_call 56; refine cR.mono ?_; rintro e w5 ⟨b, rfl, hbR, hb5⟩; obtain rfl : b = false := Bool.eq_false_iff.2 (fun h => t2 (hbR.1 h)); have b5 := HBb.out.below hb5 HBb.out.lt; have e1 : w5.cell? ⟨w.heap.size + 2, 1, none⟩ = some (.int .i64 out) := b5.cell 1; have e2 : w5.cell? ⟨w.heap.size + 2, 2, none⟩ = some (.int .i64 arg) := b5.cell 2; have e3 : w5.cell? ⟨w.heap.size + 2, 3, none⟩ = some (.slice A' n' c') := b5.cell 3; have e4 : w5.cell? ⟨w.heap.size + 2, 4, none⟩ = some (.int .i64 at') := b5.cell 4; have f1 : w5.frozen? ⟨w.heap.size + 2, 1, none⟩ = false := b5.frozen 1; have f3 : w5.frozen? ⟨w.heap.size + 2, 3, none⟩ = false := b5.frozen 3; have HB5 := Lib.hid (HB.out.trans (hb5.mono HB.out.size)); clear cR hbR hb5 b5))
  go_ret
  exact rightB_mk ⟨fun h => (by cases h), fun h => absurd h HF.out⟩ HB5.out
set_option maxRecDepth 20000 in
set_option maxHeartbeats 1000000 in
theorem right_2_3 {w : World} {A A' : Option Addr} {n c n' c' : Nat} {st cp out arg at' : Int} {set : List Rg} (hx : RgIn w A' n' c' set) (hn : n ≤ maxLen) (hs : n' ≤ 1000000) (t0 : 0 ≤ out ∧ out < (n : Int)) (t1 : 0 < n') (t2 : Canon set) (t3 : ¬ arg = 0) :
    Calls Tryd.prog 43 #[.agg #[.slice A n c, .int .i64 st, .int .i64 cp], .agg #[.int .i64 2, .int .i64 out, .int .i64 arg, .slice A' n' c', .int .i64 at']] w (RightB n cp ⟨2, out, arg, A', n', c', at', set⟩ w) := by
  have hfin : ¬ InstOK n cp ⟨2, out, arg, A', n', c', at', set⟩ := by
    rintro (⟨h1, h2, h3, h4, h5⟩ | ⟨h1, h2, h3, h4, h5, h6, h7⟩ | ⟨h1, h2, h3, h4, h5, h6, h7⟩ | ⟨h1, h2, h3, h4, h5, h6, h7⟩ | ⟨h1, h2, h3, h4, h5, h6⟩)
    all_goals simp only at *
    all_goals omega
  have hBp : Blk (((w.alloc (.cells #[.slice A n c, .int .i64 st, .int .i64 cp] 28)).alloc (.cells #[.int .i64 2, .int .i64 out, .int .i64 arg, .slice A' n' c', .int .i64 at'] 64)).alloc (.cells #[.int .i64 0, .int .i64 out, .int .i64 arg, .slice A' n' c', .int .i64 at'] 64)) w.heap.size 28 #[.slice A n c, .int .i64 st, .int .i64 cp] := ((Blk.new w _ _).alloc _).alloc _
  have hb : Below w.heap.size w (((w.alloc (.cells #[.slice A n c, .int .i64 st, .int .i64 cp] 28)).alloc (.cells #[.int .i64 2, .int .i64 out, .int .i64 arg, .slice A' n' c', .int .i64 at'] 64)).alloc (.cells #[.int .i64 0, .int .i64 out, .int .i64 arg, .slice A' n' c', .int .i64 at'] 64)) := (((Below.refl _ _).alloc (Nat.le_refl _) _).alloc (by simp) _).alloc (by simp; omega) _
  have hxW := RgIn.below hx hb
  have q0 : hereB n out = true := hereT t0
  have cH := fun pc => here_any hBp hn pc
  have d1 : ((n' : Int) == 0) = false := beq_eq_false_iff_ne.2 (by omega)
  have d3 : (arg == 0) = false := beq_eq_false_iff_ne.2 (by omega)
  have cR := rightC_any hxW hs
  have hBb : Blk (((w.alloc (.cells #[.slice A n c, .int .i64 st, .int .i64 cp] 28)).alloc (.cells #[.int .i64 2, .int .i64 out, .int .i64 arg, .slice A' n' c', .int .i64 at'] 64)).alloc (.cells #[.int .i64 0, .int .i64 out, .int .i64 arg, .slice A' n' c', .int .i64 at'] 64)) (w.heap.size + 2) 64 #[.int .i64 0, .int .i64 out, .int .i64 arg, .slice A' n' c', .int .i64 at'] := by
    have := Blk.new ((w.alloc (.cells #[.slice A n c, .int .i64 st, .int .i64 cp] 28)).alloc (.cells #[.int .i64 2, .int .i64 out, .int .i64 arg, .slice A' n' c', .int .i64 at'] 64)) 64 #[.int .i64 0, .int .i64 out, .int .i64 arg, .slice A' n' c', .int .i64 at']
    simpa using this
  have HBb := Lib.hid hBb
  clear hBb
  have HB := Lib.hid hb
  have HF := Lib.hid hfin
  have eg : ∀ args w, (callFunc 55 args).run Tryd.prog w = .ok (.enter 55 args) w := enters_of Tryd.func55 (by kernel_rfl) rfl
  clear hfin hxW hBp hx hb t0 t1 t3
  go_enter Tryd.func43, Tryd.ntmps43
  go_wp2_with (first | (go_at_fn 55; refine (cH _).mono ?_; rintro e w' ⟨rfl, rfl⟩) | (go_at_call 56; refine cR.mono ?_; rintro e w5 ⟨b, rfl, hbR, hb5⟩; obtain rfl : b = true := hbR.2 t2; have b5 := HBb.out.below hb5 HBb.out.lt; have e1 : w5.cell? ⟨w.heap.size + 2, 1, none⟩ = some (.int .i64 out) := b5.cell 1; have e2 : w5.cell? ⟨w.heap.size + 2, 2, none⟩ = some (.int .i64 arg) := b5.cell 2; have e3 : w5.cell? ⟨w.heap.size + 2, 3, none⟩ = some (.slice A' n' c') := b5.cell 3; have e4 : w5.cell? ⟨w.heap.size + 2, 4, none⟩ = some (.int .i64 at') := b5.cell 4; have f1 : w5.frozen? ⟨w.heap.size + 2, 1, none⟩ = false := b5.frozen 1; have f3 : w5.frozen? ⟨w.heap.size + 2, 3, none⟩ = false := b5.frozen 3; have HB5 := Lib.hid (HB.out.trans (hb5.mono HB.out.size)); clear cR hbR hb5 b5))
  go_ret
  exact rightB_mk ⟨fun h => (by cases h), fun h => absurd h HF.out⟩ ((HB5.out.setCell (by show _ ≤ _ + 2; omega) _).setCell (by show _ ≤ _ + 2; omega) _)
set_option maxRecDepth 20000 in
set_option maxHeartbeats 1000000 in
theorem right_2_4 {w : World} {A A' : Option Addr} {n c n' c' : Nat} {st cp out arg at' : Int} {set : List Rg} (hx : RgIn w A' n' c' set) (hn : n ≤ maxLen) (hs : n' ≤ 1000000) (t0 : 0 ≤ out ∧ out < (n : Int)) (t1 : 0 < n') (t2 : Canon set) (t3 : arg = 0) (t4 : ¬ at' = 0) :
    Calls Tryd.prog 43 #[.agg #[.slice A n c, .int .i64 st, .int .i64 cp], .agg #[.int .i64 2, .int .i64 out, .int .i64 arg, .slice A' n' c', .int .i64 at']] w (RightB n cp ⟨2, out, arg, A', n', c', at', set⟩ w) := by
  have hfin : ¬ InstOK n cp ⟨2, out, arg, A', n', c', at', set⟩ := by
    rintro (⟨h1, h2, h3, h4, h5⟩ | ⟨h1, h2, h3, h4, h5, h6, h7⟩ | ⟨h1, h2, h3, h4, h5, h6, h7⟩ | ⟨h1, h2, h3, h4, h5, h6, h7⟩ | ⟨h1, h2, h3, h4, h5, h6⟩)
    all_goals simp only at *
    all_goals omega
  have hBp : Blk (((w.alloc (.cells #[.slice A n c, .int .i64 st, .int .i64 cp] 28)).alloc (.cells #[.int .i64 2, .int .i64 out, .int .i64 arg, .slice A' n' c', .int .i64 at'] 64)).alloc (.cells #[.int .i64 0, .int .i64 out, .int .i64 arg, .slice A' n' c', .int .i64 at'] 64)) w.heap.size 28 #[.slice A n c, .int .i64 st, .int .i64 cp] := ((Blk.new w _ _).alloc _).alloc _
  have hb : Below w.heap.size w (((w.alloc (.cells #[.slice A n c, .int .i64 st, .int .i64 cp] 28)).alloc (.cells #[.int .i64 2, .int .i64 out, .int .i64 arg, .slice A' n' c', .int .i64 at'] 64)).alloc (.cells #[.int .i64 0, .int .i64 out, .int .i64 arg, .slice A' n' c', .int .i64 at'] 64)) := (((Below.refl _ _).alloc (Nat.le_refl _) _).alloc (by simp) _).alloc (by simp; omega) _
  have hxW := RgIn.below hx hb
  have q0 : hereB n out = true := hereT t0
  have cH := fun pc => here_any hBp hn pc
  have d1 : ((n' : Int) == 0) = false := beq_eq_false_iff_ne.2 (by omega)
  have d3 : (arg == 0) = true := beq_iff_eq.2 (by omega)
  have d4 : (at' == 0) = false := beq_eq_false_iff_ne.2 (by omega)
  have cR := rightC_any hxW hs
  have hBb : Blk (((w.alloc (.cells #[.slice A n c, .int .i64 st, .int .i64 cp] 28)).alloc (.cells #[.int .i64 2, .int .i64 out, .int .i64 arg, .slice A' n' c', .int .i64 at'] 64)).alloc (.cells #[.int .i64 0, .int .i64 out, .int .i64 arg, .slice A' n' c', .int .i64 at'] 64)) (w.heap.size + 2) 64 #[.int .i64 0, .int .i64 out, .int .i64 arg, .slice A' n' c', .int .i64 at'] := by
    have := Blk.new ((w.alloc (.cells #[.slice A n c, .int .i64 st, .int .i64 cp] 28)).alloc (.cells #[.int .i64 2, .int .i64 out, .int .i64 arg, .slice A' n' c', .int .i64 at'] 64)) 64 #[.int .i64 0, .int .i64 out, .int .i64 arg, .slice A' n' c', .int .i64 at']
    simpa using this
  have HBb := Lib.hid hBb
  clear hBb
  have HB := Lib.hid hb
  have HF := Lib.hid hfin
  have eg : ∀ args w, (callFunc 55 args).run Tryd.prog w = .ok (.enter 55 args) w := enters_of Tryd.func55 (by kernel_rfl) rfl
  clear hfin hxW hBp hx hb t0 t1 t3 t4
  go_enter Tryd.func43, Tryd.ntmps43
  go_wp2_with (first | (go_at_fn 55; refine (cH _).mono ?_; rintro e w' ⟨rfl, rfl⟩) | (go_at_call 56; refine cR.mono ?_; rintro e w5 ⟨b, rfl, hbR, hb5⟩; obtain rfl : b = true := hbR.2 t2; have b5 := HBb.out.below hb5 HBb.out.lt; have e1 : w5.cell? ⟨w.heap.size + 2, 1, none⟩ = some (.int .i64 out) := b5.cell 1; have e2 : w5.cell? ⟨w.heap.size + 2, 2, none⟩ = some (.int .i64 arg) := b5.cell 2; have e3 : w5.cell? ⟨w.heap.size + 2, 3, none⟩ = some (.slice A' n' c') := b5.cell 3; have e4 : w5.cell? ⟨w.heap.size + 2, 4, none⟩ = some (.int .i64 at') := b5.cell 4; have f1 : w5.frozen? ⟨w.heap.size + 2, 1, none⟩ = false := b5.frozen 1; have f3 : w5.frozen? ⟨w.heap.size + 2, 3, none⟩ = false := b5.frozen 3; have HB5 := Lib.hid (HB.out.trans (hb5.mono HB.out.size)); clear cR hbR hb5 b5))
  go_ret
  exact rightB_mk ⟨fun h => (by cases h), fun h => absurd h HF.out⟩ ((HB5.out.setCell (by show _ ≤ _ + 2; omega) _).setCell (by show _ ≤ _ + 2; omega) _)
set_option maxRecDepth 20000 in
set_option maxHeartbeats 1000000 in
theorem right_2_5 {w : World} {A A' : Option Addr} {n c n' c' : Nat} {st cp out arg at' : Int} {set : List Rg} (hx : RgIn w A' n' c' set) (hn : n ≤ maxLen) (hs : n' ≤ 1000000) (t0 : 0 ≤ out ∧ out < (n : Int)) (t1 : 0 < n') (t2 : Canon set) (t3 : arg = 0) (t4 : at' = 0) :
    Calls Tryd.prog 43 #[.agg #[.slice A n c, .int .i64 st, .int .i64 cp], .agg #[.int .i64 2, .int .i64 out, .int .i64 arg, .slice A' n' c', .int .i64 at']] w (RightB n cp ⟨2, out, arg, A', n', c', at', set⟩ w) := by
  have hfin : InstOK n cp ⟨2, out, arg, A', n', c', at', set⟩ := .inr (.inl ⟨rfl, t0.1, t0.2, t3, t1, t2, t4⟩)
  have hBp : Blk (((w.alloc (.cells #[.slice A n c, .int .i64 st, .int .i64 cp] 28)).alloc (.cells #[.int .i64 2, .int .i64 out, .int .i64 arg, .slice A' n' c', .int .i64 at'] 64)).alloc (.cells #[.int .i64 0, .int .i64 out, .int .i64 arg, .slice A' n' c', .int .i64 at'] 64)) w.heap.size 28 #[.slice A n c, .int .i64 st, .int .i64 cp] := ((Blk.new w _ _).alloc _).alloc _
  have hb : Below w.heap.size w (((w.alloc (.cells #[.slice A n c, .int .i64 st, .int .i64 cp] 28)).alloc (.cells #[.int .i64 2, .int .i64 out, .int .i64 arg, .slice A' n' c', .int .i64 at'] 64)).alloc (.cells #[.int .i64 0, .int .i64 out, .int .i64 arg, .slice A' n' c', .int .i64 at'] 64)) := (((Below.refl _ _).alloc (Nat.le_refl _) _).alloc (by simp) _).alloc (by simp; omega) _
  have hxW := RgIn.below hx hb
  have q0 : hereB n out = true := hereT t0
  have cH := fun pc => here_any hBp hn pc
  have d1 : ((n' : Int) == 0) = false := beq_eq_false_iff_ne.2 (by omega)
  have d3 : (arg == 0) = true := beq_iff_eq.2 (by omega)
  have d4 : (at' == 0) = true := beq_iff_eq.2 (by omega)
  have cR := rightC_any hxW hs
  have hBb : Blk (((w.alloc (.cells #[.slice A n c, .int .i64 st, .int .i64 cp] 28)).alloc (.cells #[.int .i64 2, .int .i64 out, .int .i64 arg, .slice A' n' c', .int .i64 at'] 64)).alloc (.cells #[.int .i64 0, .int .i64 out, .int .i64 arg, .slice A' n' c', .int .i64 at'] 64)) (w.heap.size + 2) 64 #[.int .i64 0, .int .i64 out, .int .i64 arg, .slice A' n' c', .int .i64 at'] := by
    have := Blk.new ((w.alloc (.cells #[.slice A n c, .int .i64 st, .int .i64 cp] 28)).alloc (.cells #[.int .i64 2, .int .i64 out, .int .i64 arg, .slice A' n' c', .int .i64 at'] 64)) 64 #[.int .i64 0, .int .i64 out, .int .i64 arg, .slice A' n' c', .int .i64 at']
    simpa using this
  have HBb := Lib.hid hBb
  clear hBb
  have HB := Lib.hid hb
  have HF := Lib.hid hfin
  have eg : ∀ args w, (callFunc 55 args).run Tryd.prog w = .ok (.enter 55 args) w := enters_of Tryd.func55 (by kernel_rfl) rfl
  clear hfin hxW hBp hx hb t0 t1 t3 t4
  go_enter Tryd.func43, Tryd.ntmps43
  go_wp2_with (first | (go_at_fn 55; refine (cH _).mono ?_; rintro e w' ⟨rfl, rfl⟩) | (go_at_call 56; refine cR.mono ?_; rintro e w5 ⟨b, rfl, hbR, hb5⟩; obtain rfl : b = true := hbR.2 t2; have b5 := HBb.out.below hb5 HBb.out.lt; have e1 : w5.cell? ⟨w.heap.size + 2, 1, none⟩ = some (.int .i64 out) := b5.cell 1; have e2 : w5.cell? ⟨w.heap.size + 2, 2, none⟩ = some (.int .i64 arg) := b5.cell 2; have e3 : w5.cell? ⟨w.heap.size + 2, 3, none⟩ = some (.slice A' n' c') := b5.cell 3; have e4 : w5.cell? ⟨w.heap.size + 2, 4, none⟩ = some (.int .i64 at') := b5.cell 4; have f1 : w5.frozen? ⟨w.heap.size + 2, 1, none⟩ = false := b5.frozen 1; have f3 : w5.frozen? ⟨w.heap.size + 2, 3, none⟩ = false := b5.frozen 3; have HB5 := Lib.hid (HB.out.trans (hb5.mono HB.out.size)); clear cR hbR hb5 b5))
  go_ret
  exact rightB_mk ⟨fun _ => HF.out, fun _ => rfl⟩ ((HB5.out.setCell (by show _ ≤ _ + 2; omega) _).setCell (by show _ ≤ _ + 2; omega) _)
set_option maxRecDepth 20000 in
set_option maxHeartbeats 1000000 in
theorem right_3_0 {w : World} {A A' : Option Addr} {n c n' c' : Nat} {st cp out arg at' : Int} {set : List Rg} (hx : RgIn w A' n' c' set) (hn : n ≤ maxLen) (_hs : n' ≤ 1000000) (t0 : ¬ (0 ≤ out ∧ out < (n : Int))) :
    Calls Tryd.prog 43 #[.agg #[.slice A n c, .int .i64 st, .int .i64 cp], .agg #[.int .i64 3, .int .i64 out, .int .i64 arg, .slice A' n' c', .int .i64 at']] w (RightB n cp ⟨3, out, arg, A', n', c', at', set⟩ w) := by
  have hfin : ¬ InstOK n cp ⟨3, out, arg, A', n', c', at', set⟩ := by
    rintro (⟨h1, h2, h3, h4, h5⟩ | ⟨h1, h2, h3, h4, h5, h6, h7⟩ | ⟨h1, h2, h3, h4, h5, h6, h7⟩ | ⟨h1, h2, h3, h4, h5, h6, h7⟩ | ⟨h1, h2, h3, h4, h5, h6⟩)
    all_goals simp only at *
    all_goals omega
  have hBp : Blk (((w.alloc (.cells #[.slice A n c, .int .i64 st, .int .i64 cp] 28)).alloc (.cells #[.int .i64 3, .int .i64 out, .int .i64 arg, .slice A' n' c', .int .i64 at'] 64)).alloc (.cells #[.int .i64 0, .int .i64 out, .int .i64 arg, .slice A' n' c', .int .i64 at'] 64)) w.heap.size 28 #[.slice A n c, .int .i64 st, .int .i64 cp] := ((Blk.new w _ _).alloc _).alloc _
  have hb : Below w.heap.size w (((w.alloc (.cells #[.slice A n c, .int .i64 st, .int .i64 cp] 28)).alloc (.cells #[.int .i64 3, .int .i64 out, .int .i64 arg, .slice A' n' c', .int .i64 at'] 64)).alloc (.cells #[.int .i64 0, .int .i64 out, .int .i64 arg, .slice A' n' c', .int .i64 at'] 64)) := (((Below.refl _ _).alloc (Nat.le_refl _) _).alloc (by simp) _).alloc (by simp; omega) _
  have hxW := RgIn.below hx hb
  have q0 : hereB n out = false := hereF t0
  have cH := fun pc => here_any hBp hn pc
  have HB := Lib.hid hb
  have HF := Lib.hid hfin
  have eg : ∀ args w, (callFunc 55 args).run Tryd.prog w = .ok (.enter 55 args) w := enters_of Tryd.func55 (by kernel_rfl) rfl
  clear hfin hxW hBp hx hb t0
  go_enter Tryd.func43, Tryd.ntmps43
  go_wp2_with (go_at_fn 55; refine (cH _).mono ?_; rintro e w' ⟨rfl, rfl⟩)
  go_ret
  exact rightB_mk ⟨fun h => (by cases h), fun h => absurd h HF.out⟩ ((((Below.refl _ _).alloc (Nat.le_refl _) _).alloc (by simp) _).alloc (by simp; omega) _)
set_option maxRecDepth 20000 in
set_option maxHeartbeats 1000000 in
theorem right_3_1 {w : World} {A A' : Option Addr} {n c n' c' : Nat} {st cp out arg at' : Int} {set : List Rg} (hx : RgIn w A' n' c' set) (hn : n ≤ maxLen) (_hs : n' ≤ 1000000) (t0 : 0 ≤ out ∧ out < (n : Int)) (t1 : ¬ (0 ≤ arg ∧ arg < (n : Int))) :
    Calls Tryd.prog 43 #[.agg #[.slice A n c, .int .i64 st, .int .i64 cp], .agg #[.int .i64 3, .int .i64 out, .int .i64 arg, .slice A' n' c', .int .i64 at']] w (RightB n cp ⟨3, out, arg, A', n', c', at', set⟩ w) := by
  have hfin : ¬ InstOK n cp ⟨3, out, arg, A', n', c', at', set⟩ := by
    rintro (⟨h1, h2, h3, h4, h5⟩ | ⟨h1, h2, h3, h4, h5, h6, h7⟩ | ⟨h1, h2, h3, h4, h5, h6, h7⟩ | ⟨h1, h2, h3, h4, h5, h6, h7⟩ | ⟨h1, h2, h3, h4, h5, h6⟩)
    all_goals simp only at *
    all_goals omega
  have hBp : Blk (((w.alloc (.cells #[.slice A n c, .int .i64 st, .int .i64 cp] 28)).alloc (.cells #[.int .i64 3, .int .i64 out, .int .i64 arg, .slice A' n' c', .int .i64 at'] 64)).alloc (.cells #[.int .i64 0, .int .i64 out, .int .i64 arg, .slice A' n' c', .int .i64 at'] 64)) w.heap.size 28 #[.slice A n c, .int .i64 st, .int .i64 cp] := ((Blk.new w _ _).alloc _).alloc _
  have hb : Below w.heap.size w (((w.alloc (.cells #[.slice A n c, .int .i64 st, .int .i64 cp] 28)).alloc (.cells #[.int .i64 3, .int .i64 out, .int .i64 arg, .slice A' n' c', .int .i64 at'] 64)).alloc (.cells #[.int .i64 0, .int .i64 out, .int .i64 arg, .slice A' n' c', .int .i64 at'] 64)) := (((Below.refl _ _).alloc (Nat.le_refl _) _).alloc (by simp) _).alloc (by simp; omega) _
  have hxW := RgIn.below hx hb
  have q0 : hereB n out = true := hereT t0
  have cH := fun pc => here_any hBp hn pc
  have q1 : hereB n arg = false := hereF t1
  have HB := Lib.hid hb
  have HF := Lib.hid hfin
  have eg : ∀ args w, (callFunc 55 args).run Tryd.prog w = .ok (.enter 55 args) w := enters_of Tryd.func55 (by kernel_rfl) rfl
  clear hfin hxW hBp hx hb t0 t1
  go_enter Tryd.func43, Tryd.ntmps43
  go_wp2_with (go_at_fn 55; refine (cH _).mono ?_; rintro e w' ⟨rfl, rfl⟩)
  go_ret
  exact rightB_mk ⟨fun h => (by cases h), fun h => absurd h HF.out⟩ ((((Below.refl _ _).alloc (Nat.le_refl _) _).alloc (by simp) _).alloc (by simp; omega) _)
set_option maxRecDepth 20000 in
set_option maxHeartbeats 1000000 in
theorem right_3_2 {w : World} {A A' : Option Addr} {n c n' c' : Nat} {st cp out arg at' : Int} {set : List Rg} (hx : RgIn w A' n' c' set) (hn : n ≤ maxLen) (_hs : n' ≤ 1000000) (t0 : 0 ≤ out ∧ out < (n : Int)) (t1 : 0 ≤ arg ∧ arg < (n : Int)) (t2 : ¬ at' = 0) :
    Calls Tryd.prog 43 #[.agg #[.slice A n c, .int .i64 st, .int .i64 cp], .agg #[.int .i64 3, .int .i64 out, .int .i64 arg, .slice A' n' c', .int .i64 at']] w (RightB n cp ⟨3, out, arg, A', n', c', at', set⟩ w) := by
  have hfin : ¬ InstOK n cp ⟨3, out, arg, A', n', c', at', set⟩ := by
    rintro (⟨h1, h2, h3, h4, h5⟩ | ⟨h1, h2, h3, h4, h5, h6, h7⟩ | ⟨h1, h2, h3, h4, h5, h6, h7⟩ | ⟨h1, h2, h3, h4, h5, h6, h7⟩ | ⟨h1, h2, h3, h4, h5, h6⟩)
    all_goals simp only at *
    all_goals omega
  have hBp : Blk (((w.alloc (.cells #[.slice A n c, .int .i64 st, .int .i64 cp] 28)).alloc (.cells #[.int .i64 3, .int .i64 out, .int .i64 arg, .slice A' n' c', .int .i64 at'] 64)).alloc (.cells #[.int .i64 0, .int .i64 out, .int .i64 arg, .slice A' n' c', .int .i64 at'] 64)) w.heap.size 28 #[.slice A n c, .int .i64 st, .int .i64 cp] := ((Blk.new w _ _).alloc _).alloc _
  have hb : Below w.heap.size w (((w.alloc (.cells #[.slice A n c, .int .i64 st, .int .i64 cp] 28)).alloc (.cells #[.int .i64 3, .int .i64 out, .int .i64 arg, .slice A' n' c', .int .i64 at'] 64)).alloc (.cells #[.int .i64 0, .int .i64 out, .int .i64 arg, .slice A' n' c', .int .i64 at'] 64)) := (((Below.refl _ _).alloc (Nat.le_refl _) _).alloc (by simp) _).alloc (by simp; omega) _
  have hxW := RgIn.below hx hb
  have q0 : hereB n out = true := hereT t0
  have cH := fun pc => here_any hBp hn pc
  have q1 : hereB n arg = true := hereT t1
  have d2 : (at' == 0) = false := beq_eq_false_iff_ne.2 (by omega)
  have HB := Lib.hid hb
  have HF := Lib.hid hfin
  have eg : ∀ args w, (callFunc 55 args).run Tryd.prog w = .ok (.enter 55 args) w := enters_of Tryd.func55 (by kernel_rfl) rfl
  clear hfin hxW hBp hx hb t0 t1 t2
  go_enter Tryd.func43, Tryd.ntmps43
  go_wp2_with (go_at_fn 55; refine (cH _).mono ?_; rintro e w' ⟨rfl, rfl⟩)
  go_ret
  exact rightB_mk ⟨fun h => (by cases h), fun h => absurd h HF.out⟩ ((((Below.refl _ _).alloc (Nat.le_refl _) _).alloc (by simp) _).alloc (by simp; omega) _)
set_option maxRecDepth 20000 in
set_option maxHeartbeats 1000000 in
theorem right_3_3 {w : World} {A A' : Option Addr} {n c n' c' : Nat} {st cp out arg at' : Int} {set : List Rg} (hx : RgIn w A' n' c' set) (hn : n ≤ maxLen) (_hs : n' ≤ 1000000) (t0 : 0 ≤ out ∧ out < (n : Int)) (t1 : 0 ≤ arg ∧ arg < (n : Int)) (t2 : at' = 0) (t3 : ¬ n' = 0) :
    Calls Tryd.prog 43 #[.agg #[.slice A n c, .int .i64 st, .int .i64 cp], .agg #[.int .i64 3, .int .i64 out, .int .i64 arg, .slice A' n' c', .int .i64 at']] w (RightB n cp ⟨3, out, arg, A', n', c', at', set⟩ w) := by
  have hfin : ¬ InstOK n cp ⟨3, out, arg, A', n', c', at', set⟩ := by
    rintro (⟨h1, h2, h3, h4, h5⟩ | ⟨h1, h2, h3, h4, h5, h6, h7⟩ | ⟨h1, h2, h3, h4, h5, h6, h7⟩ | ⟨h1, h2, h3, h4, h5, h6, h7⟩ | ⟨h1, h2, h3, h4, h5, h6⟩)
    all_goals simp only at *
    all_goals omega
  have hBp : Blk (((w.alloc (.cells #[.slice A n c, .int .i64 st, .int .i64 cp] 28)).alloc (.cells #[.int .i64 3, .int .i64 out, .int .i64 arg, .slice A' n' c', .int .i64 at'] 64)).alloc (.cells #[.int .i64 0, .int .i64 out, .int .i64 arg, .slice A' n' c', .int .i64 at'] 64)) w.heap.size 28 #[.slice A n c, .int .i64 st, .int .i64 cp] := ((Blk.new w _ _).alloc _).alloc _
  have hb : Below w.heap.size w (((w.alloc (.cells #[.slice A n c, .int .i64 st, .int .i64 cp] 28)).alloc (.cells #[.int .i64 3, .int .i64 out, .int .i64 arg, .slice A' n' c', .int .i64 at'] 64)).alloc (.cells #[.int .i64 0, .int .i64 out, .int .i64 arg, .slice A' n' c', .int .i64 at'] 64)) := (((Below.refl _ _).alloc (Nat.le_refl _) _).alloc (by simp) _).alloc (by simp; omega) _
  have hxW := RgIn.below hx hb
  have q0 : hereB n out = true := hereT t0
  have cH := fun pc => here_any hBp hn pc
  have q1 : hereB n arg = true := hereT t1
  have d2 : (at' == 0) = true := beq_iff_eq.2 (by omega)
  have d3 : ((n' : Int) == 0) = false := beq_eq_false_iff_ne.2 (by omega)
  have HB := Lib.hid hb
  have HF := Lib.hid hfin
  have eg : ∀ args w, (callFunc 55 args).run Tryd.prog w = .ok (.enter 55 args) w := enters_of Tryd.func55 (by kernel_rfl) rfl
  clear hfin hxW hBp hx hb t0 t1 t2 t3
  go_enter Tryd.func43, Tryd.ntmps43
  go_wp2_with (go_at_fn 55; refine (cH _).mono ?_; rintro e w' ⟨rfl, rfl⟩)
  go_ret
  exact rightB_mk ⟨fun h => (by cases h), fun h => absurd h HF.out⟩ ((((Below.refl _ _).alloc (Nat.le_refl _) _).alloc (by simp) _).alloc (by simp; omega) _)
set_option maxRecDepth 20000 in
set_option maxHeartbeats 1000000 in
theorem right_3_4 {w : World} {A A' : Option Addr} {n c n' c' : Nat} {st cp out arg at' : Int} {set : List Rg} (hx : RgIn w A' n' c' set) (hn : n ≤ maxLen) (_hs : n' ≤ 1000000) (t0 : 0 ≤ out ∧ out < (n : Int)) (t1 : 0 ≤ arg ∧ arg < (n : Int)) (t2 : at' = 0) (t3 : n' = 0) :
    Calls Tryd.prog 43 #[.agg #[.slice A n c, .int .i64 st, .int .i64 cp], .agg #[.int .i64 3, .int .i64 out, .int .i64 arg, .slice A' n' c', .int .i64 at']] w (RightB n cp ⟨3, out, arg, A', n', c', at', set⟩ w) := by
  have hfin : InstOK n cp ⟨3, out, arg, A', n', c', at', set⟩ := .inr (.inr (.inl ⟨rfl, t0.1, t0.2, t1.1, t1.2, t3, t2⟩))
  have hBp : Blk (((w.alloc (.cells #[.slice A n c, .int .i64 st, .int .i64 cp] 28)).alloc (.cells #[.int .i64 3, .int .i64 out, .int .i64 arg, .slice A' n' c', .int .i64 at'] 64)).alloc (.cells #[.int .i64 0, .int .i64 out, .int .i64 arg, .slice A' n' c', .int .i64 at'] 64)) w.heap.size 28 #[.slice A n c, .int .i64 st, .int .i64 cp] := ((Blk.new w _ _).alloc _).alloc _
  have hb : Below w.heap.size w (((w.alloc (.cells #[.slice A n c, .int .i64 st, .int .i64 cp] 28)).alloc (.cells #[.int .i64 3, .int .i64 out, .int .i64 arg, .slice A' n' c', .int .i64 at'] 64)).alloc (.cells #[.int .i64 0, .int .i64 out, .int .i64 arg, .slice A' n' c', .int .i64 at'] 64)) := (((Below.refl _ _).alloc (Nat.le_refl _) _).alloc (by simp) _).alloc (by simp; omega) _
  have hxW := RgIn.below hx hb
  have q0 : hereB n out = true := hereT t0
  have cH := fun pc => here_any hBp hn pc
  have q1 : hereB n arg = true := hereT t1
  have d2 : (at' == 0) = true := beq_iff_eq.2 (by omega)
  have d3 : ((n' : Int) == 0) = true := beq_iff_eq.2 (by omega)
  have HB := Lib.hid hb
  have HF := Lib.hid hfin
  have eg : ∀ args w, (callFunc 55 args).run Tryd.prog w = .ok (.enter 55 args) w := enters_of Tryd.func55 (by kernel_rfl) rfl
  clear hfin hxW hBp hx hb t0 t1 t2 t3
  go_enter Tryd.func43, Tryd.ntmps43
  go_wp2_with (go_at_fn 55; refine (cH _).mono ?_; rintro e w' ⟨rfl, rfl⟩)
  go_ret
  exact rightB_mk ⟨fun _ => HF.out, fun _ => rfl⟩ ((((Below.refl _ _).alloc (Nat.le_refl _) _).alloc (by simp) _).alloc (by simp; omega) _)
set_option maxRecDepth 20000 in
set_option maxHeartbeats 1000000 in
theorem right_4_0 {w : World} {A A' : Option Addr} {n c n' c' : Nat} {st cp out arg at' : Int} {set : List Rg} (hx : RgIn w A' n' c' set) (hn : n ≤ maxLen) (_hs : n' ≤ 1000000) (t0 : ¬ (0 ≤ out ∧ out < (n : Int))) :
    Calls Tryd.prog 43 #[.agg #[.slice A n c, .int .i64 st, .int .i64 cp], .agg #[.int .i64 4, .int .i64 out, .int .i64 arg, .slice A' n' c', .int .i64 at']] w (RightB n cp ⟨4, out, arg, A', n', c', at', set⟩ w) := by
  have hfin : ¬ InstOK n cp ⟨4, out, arg, A', n', c', at', set⟩ := by
    rintro (⟨h1, h2, h3, h4, h5⟩ | ⟨h1, h2, h3, h4, h5, h6, h7⟩ | ⟨h1, h2, h3, h4, h5, h6, h7⟩ | ⟨h1, h2, h3, h4, h5, h6, h7⟩ | ⟨h1, h2, h3, h4, h5, h6⟩)
    all_goals simp only at *
    all_goals omega
  have hBp : Blk (((w.alloc (.cells #[.slice A n c, .int .i64 st, .int .i64 cp] 28)).alloc (.cells #[.int .i64 4, .int .i64 out, .int .i64 arg, .slice A' n' c', .int .i64 at'] 64)).alloc (.cells #[.int .i64 0, .int .i64 out, .int .i64 arg, .slice A' n' c', .int .i64 at'] 64)) w.heap.size 28 #[.slice A n c, .int .i64 st, .int .i64 cp] := ((Blk.new w _ _).alloc _).alloc _
  have hb : Below w.heap.size w (((w.alloc (.cells #[.slice A n c, .int .i64 st, .int .i64 cp] 28)).alloc (.cells #[.int .i64 4, .int .i64 out, .int .i64 arg, .slice A' n' c', .int .i64 at'] 64)).alloc (.cells #[.int .i64 0, .int .i64 out, .int .i64 arg, .slice A' n' c', .int .i64 at'] 64)) := (((Below.refl _ _).alloc (Nat.le_refl _) _).alloc (by simp) _).alloc (by simp; omega) _
  have hxW := RgIn.below hx hb
  have q0 : hereB n out = false := hereF t0
  have cH := fun pc => here_any hBp hn pc
  have HB := Lib.hid hb
  have HF := Lib.hid hfin
  have eg : ∀ args w, (callFunc 55 args).run Tryd.prog w = .ok (.enter 55 args) w := enters_of Tryd.func55 (by kernel_rfl) rfl
  clear hfin hxW hBp hx hb t0
  go_enter Tryd.func43, Tryd.ntmps43
  go_wp2_with (go_at_fn 55; refine (cH _).mono ?_; rintro e w' ⟨rfl, rfl⟩)
  go_ret
  exact rightB_mk ⟨fun h => (by cases h), fun h => absurd h HF.out⟩ ((((Below.refl _ _).alloc (Nat.le_refl _) _).alloc (by simp) _).alloc (by simp; omega) _)
set_option maxRecDepth 20000 in
set_option maxHeartbeats 1000000 in
theorem right_4_1 {w : World} {A A' : Option Addr} {n c n' c' : Nat} {st cp out arg at' : Int} {set : List Rg} (hx : RgIn w A' n' c' set) (hn : n ≤ maxLen) (_hs : n' ≤ 1000000) (t0 : 0 ≤ out ∧ out < (n : Int)) (t1 : ¬ 2 ≤ arg) :
    Calls Tryd.prog 43 #[.agg #[.slice A n c, .int .i64 st, .int .i64 cp], .agg #[.int .i64 4, .int .i64 out, .int .i64 arg, .slice A' n' c', .int .i64 at']] w (RightB n cp ⟨4, out, arg, A', n', c', at', set⟩ w) := by
  have hfin : ¬ InstOK n cp ⟨4, out, arg, A', n', c', at', set⟩ := by
    rintro (⟨h1, h2, h3, h4, h5⟩ | ⟨h1, h2, h3, h4, h5, h6, h7⟩ | ⟨h1, h2, h3, h4, h5, h6, h7⟩ | ⟨h1, h2, h3, h4, h5, h6, h7⟩ | ⟨h1, h2, h3, h4, h5, h6⟩)
    all_goals simp only at *
    all_goals omega
  have hBp : Blk (((w.alloc (.cells #[.slice A n c, .int .i64 st, .int .i64 cp] 28)).alloc (.cells #[.int .i64 4, .int .i64 out, .int .i64 arg, .slice A' n' c', .int .i64 at'] 64)).alloc (.cells #[.int .i64 0, .int .i64 out, .int .i64 arg, .slice A' n' c', .int .i64 at'] 64)) w.heap.size 28 #[.slice A n c, .int .i64 st, .int .i64 cp] := ((Blk.new w _ _).alloc _).alloc _
  have hb : Below w.heap.size w (((w.alloc (.cells #[.slice A n c, .int .i64 st, .int .i64 cp] 28)).alloc (.cells #[.int .i64 4, .int .i64 out, .int .i64 arg, .slice A' n' c', .int .i64 at'] 64)).alloc (.cells #[.int .i64 0, .int .i64 out, .int .i64 arg, .slice A' n' c', .int .i64 at'] 64)) := (((Below.refl _ _).alloc (Nat.le_refl _) _).alloc (by simp) _).alloc (by simp; omega) _
  have hxW := RgIn.below hx hb
  have q0 : hereB n out = true := hereT t0
  have cH := fun pc => here_any hBp hn pc
  have d1 : decide (arg < 2) = true := decide_eq_true (by omega)
  have HB := Lib.hid hb
  have HF := Lib.hid hfin
  have eg : ∀ args w, (callFunc 55 args).run Tryd.prog w = .ok (.enter 55 args) w := enters_of Tryd.func55 (by kernel_rfl) rfl
  clear hfin hxW hBp hx hb t0 t1
  go_enter Tryd.func43, Tryd.ntmps43
  go_wp2_with (go_at_fn 55; refine (cH _).mono ?_; rintro e w' ⟨rfl, rfl⟩)
  go_ret
  exact rightB_mk ⟨fun h => (by cases h), fun h => absurd h HF.out⟩ ((((Below.refl _ _).alloc (Nat.le_refl _) _).alloc (by simp) _).alloc (by simp; omega) _)
set_option maxRecDepth 20000 in
set_option maxHeartbeats 1000000 in
theorem right_4_2 {w : World} {A A' : Option Addr} {n c n' c' : Nat} {st cp out arg at' : Int} {set : List Rg} (hx : RgIn w A' n' c' set) (hn : n ≤ maxLen) (_hs : n' ≤ 1000000) (t0 : 0 ≤ out ∧ out < (n : Int)) (t1 : 2 ≤ arg) (t2 : ¬ arg < cp) :
    Calls Tryd.prog 43 #[.agg #[.slice A n c, .int .i64 st, .int .i64 cp], .agg #[.int .i64 4, .int .i64 out, .int .i64 arg, .slice A' n' c', .int .i64 at']] w (RightB n cp ⟨4, out, arg, A', n', c', at', set⟩ w) := by
  have hfin : ¬ InstOK n cp ⟨4, out, arg, A', n', c', at', set⟩ := by
    rintro (⟨h1, h2, h3, h4, h5⟩ | ⟨h1, h2, h3, h4, h5, h6, h7⟩ | ⟨h1, h2, h3, h4, h5, h6, h7⟩ | ⟨h1, h2, h3, h4, h5, h6, h7⟩ | ⟨h1, h2, h3, h4, h5, h6⟩)
    all_goals simp only at *
    all_goals omega
  have hBp : Blk (((w.alloc (.cells #[.slice A n c, .int .i64 st, .int .i64 cp] 28)).alloc (.cells #[.int .i64 4, .int .i64 out, .int .i64 arg, .slice A' n' c', .int .i64 at'] 64)).alloc (.cells #[.int .i64 0, .int .i64 out, .int .i64 arg, .slice A' n' c', .int .i64 at'] 64)) w.heap.size 28 #[.slice A n c, .int .i64 st, .int .i64 cp] := ((Blk.new w _ _).alloc _).alloc _
  have hb : Below w.heap.size w (((w.alloc (.cells #[.slice A n c, .int .i64 st, .int .i64 cp] 28)).alloc (.cells #[.int .i64 4, .int .i64 out, .int .i64 arg, .slice A' n' c', .int .i64 at'] 64)).alloc (.cells #[.int .i64 0, .int .i64 out, .int .i64 arg, .slice A' n' c', .int .i64 at'] 64)) := (((Below.refl _ _).alloc (Nat.le_refl _) _).alloc (by simp) _).alloc (by simp; omega) _
  have hxW := RgIn.below hx hb
  have q0 : hereB n out = true := hereT t0
  have cH := fun pc => here_any hBp hn pc
  have d1 : decide (arg < 2) = false := decide_eq_false (by omega)
  have d2 : decide (cp ≤ arg) = true := decide_eq_true (by omega)
  have HB := Lib.hid hb
  have HF := Lib.hid hfin
  have eg : ∀ args w, (callFunc 55 args).run Tryd.prog w = .ok (.enter 55 args) w := enters_of Tryd.func55 (by kernel_rfl) rfl
  clear hfin hxW hBp hx hb t0 t1 t2
  go_enter Tryd.func43, Tryd.ntmps43
  go_wp2_with (go_at_fn 55; refine (cH _).mono ?_; rintro e w' ⟨rfl, rfl⟩)
  go_ret
  exact rightB_mk ⟨fun h => (by cases h), fun h => absurd h HF.out⟩ ((((Below.refl _ _).alloc (Nat.le_refl _) _).alloc (by simp) _).alloc (by simp; omega) _)
set_option maxRecDepth 20000 in
set_option maxHeartbeats 1000000 in
theorem right_4_3 {w : World} {A A' : Option Addr} {n c n' c' : Nat} {st cp out arg at' : Int} {set : List Rg} (hx : RgIn w A' n' c' set) (hn : n ≤ maxLen) (_hs : n' ≤ 1000000) (t0 : 0 ≤ out ∧ out < (n : Int)) (t1 : 2 ≤ arg) (t2 : arg < cp) (t3 : ¬ at' = 0) :
    Calls Tryd.prog 43 #[.agg #[.slice A n c, .int .i64 st, .int .i64 cp], .agg #[.int .i64 4, .int .i64 out, .int .i64 arg, .slice A' n' c', .int .i64 at']] w (RightB n cp ⟨4, out, arg, A', n', c', at', set⟩ w) := by
  have hfin : ¬ InstOK n cp ⟨4, out, arg, A', n', c', at', set⟩ := by
    rintro (⟨h1, h2, h3, h4, h5⟩ | ⟨h1, h2, h3, h4, h5, h6, h7⟩ | ⟨h1, h2, h3, h4, h5, h6, h7⟩ | ⟨h1, h2, h3, h4, h5, h6, h7⟩ | ⟨h1, h2, h3, h4, h5, h6⟩)
    all_goals simp only at *
    all_goals omega
  have hBp : Blk (((w.alloc (.cells #[.slice A n c, .int .i64 st, .int .i64 cp] 28)).alloc (.cells #[.int .i64 4, .int .i64 out, .int .i64 arg, .slice A' n' c', .int .i64 at'] 64)).alloc (.cells #[.int .i64 0, .int .i64 out, .int .i64 arg, .slice A' n' c', .int .i64 at'] 64)) w.heap.size 28 #[.slice A n c, .int .i64 st, .int .i64 cp] := ((Blk.new w _ _).alloc _).alloc _
  have hb : Below w.heap.size w (((w.alloc (.cells #[.slice A n c, .int .i64 st, .int .i64 cp] 28)).alloc (.cells #[.int .i64 4, .int .i64 out, .int .i64 arg, .slice A' n' c', .int .i64 at'] 64)).alloc (.cells #[.int .i64 0, .int .i64 out, .int .i64 arg, .slice A' n' c', .int .i64 at'] 64)) := (((Below.refl _ _).alloc (Nat.le_refl _) _).alloc (by simp) _).alloc (by simp; omega) _
  have hxW := RgIn.below hx hb
  have q0 : hereB n out = true := hereT t0
  have cH := fun pc => here_any hBp hn pc
  have d1 : decide (arg < 2) = false := decide_eq_false (by omega)
  have d2 : decide (cp ≤ arg) = false := decide_eq_false (by omega)
  have d3 : (at' == 0) = false := beq_eq_false_iff_ne.2 (by omega)
  have HB := Lib.hid hb
  have HF := Lib.hid hfin
  have eg : ∀ args w, (callFunc 55 args).run Tryd.prog w = .ok (.enter 55 args) w := enters_of Tryd.func55 (by kernel_rfl) rfl
  clear hfin hxW hBp hx hb t0 t1 t2 t3
  go_enter Tryd.func43, Tryd.ntmps43
  go_wp2_with (go_at_fn 55; refine (cH _).mono ?_; rintro e w' ⟨rfl, rfl⟩)
  go_ret
  exact rightB_mk ⟨fun h => (by cases h), fun h => absurd h HF.out⟩ ((((Below.refl _ _).alloc (Nat.le_refl _) _).alloc (by simp) _).alloc (by simp; omega) _)
set_option maxRecDepth 20000 in
set_option maxHeartbeats 1000000 in
theorem right_4_4 {w : World} {A A' : Option Addr} {n c n' c' : Nat} {st cp out arg at' : Int} {set : List Rg} (hx : RgIn w A' n' c' set) (hn : n ≤ maxLen) (_hs : n' ≤ 1000000) (t0 : 0 ≤ out ∧ out < (n : Int)) (t1 : 2 ≤ arg) (t2 : arg < cp) (t3 : at' = 0) (t4 : ¬ n' = 0) :
    Calls Tryd.prog 43 #[.agg #[.slice A n c, .int .i64 st, .int .i64 cp], .agg #[.int .i64 4, .int .i64 out, .int .i64 arg, .slice A' n' c', .int .i64 at']] w (RightB n cp ⟨4, out, arg, A', n', c', at', set⟩ w) := by
  have hfin : ¬ InstOK n cp ⟨4, out, arg, A', n', c', at', set⟩ := by
    rintro (⟨h1, h2, h3, h4, h5⟩ | ⟨h1, h2, h3, h4, h5, h6, h7⟩ | ⟨h1, h2, h3, h4, h5, h6, h7⟩ | ⟨h1, h2, h3, h4, h5, h6, h7⟩ | ⟨h1, h2, h3, h4, h5, h6⟩)
    all_goals simp only at *
    all_goals omega
  have hBp : Blk (((w.alloc (.cells #[.slice A n c, .int .i64 st, .int .i64 cp] 28)).alloc (.cells #[.int .i64 4, .int .i64 out, .int .i64 arg, .slice A' n' c', .int .i64 at'] 64)).alloc (.cells #[.int .i64 0, .int .i64 out, .int .i64 arg, .slice A' n' c', .int .i64 at'] 64)) w.heap.size 28 #[.slice A n c, .int .i64 st, .int .i64 cp] := ((Blk.new w _ _).alloc _).alloc _
  have hb : Below w.heap.size w (((w.alloc (.cells #[.slice A n c, .int .i64 st, .int .i64 cp] 28)).alloc (.cells #[.int .i64 4, .int .i64 out, .int .i64 arg, .slice A' n' c', .int .i64 at'] 64)).alloc (.cells #[.int .i64 0, .int .i64 out, .int .i64 arg, .slice A' n' c', .int .i64 at'] 64)) := (((Below.refl _ _).alloc (Nat.le_refl _) _).alloc (by simp) _).alloc (by simp; omega) _
  have hxW := RgIn.below hx hb
  have q0 : hereB n out = true := hereT t0
  have cH := fun pc => here_any hBp hn pc
  have d1 : decide (arg < 2) = false := decide_eq_false (by omega)
  have d2 : decide (cp ≤ arg) = false := decide_eq_false (by omega)
  have d3 : (at' == 0) = true := beq_iff_eq.2 (by omega)
  have d4 : ((n' : Int) == 0) = false := beq_eq_false_iff_ne.2 (by omega)
  have HB := Lib.hid hb
  have HF := Lib.hid hfin
  have eg : ∀ args w, (callFunc 55 args).run Tryd.prog w = .ok (.enter 55 args) w := enters_of Tryd.func55 (by kernel_rfl) rfl
  clear hfin hxW hBp hx hb t0 t1 t2 t3 t4
  go_enter Tryd.func43, Tryd.ntmps43
  go_wp2_with (go_at_fn 55; refine (cH _).mono ?_; rintro e w' ⟨rfl, rfl⟩)
  go_ret
  exact rightB_mk ⟨fun h => (by cases h), fun h => absurd h HF.out⟩ ((((Below.refl _ _).alloc (Nat.le_refl _) _).alloc (by simp) _).alloc (by simp; omega) _)
set_option maxRecDepth 20000 in
set_option maxHeartbeats 1000000 in
theorem right_4_5 {w : World} {A A' : Option Addr} {n c n' c' : Nat} {st cp out arg at' : Int} {set : List Rg} (hx : RgIn w A' n' c' set) (hn : n ≤ maxLen) (_hs : n' ≤ 1000000) (t0 : 0 ≤ out ∧ out < (n : Int)) (t1 : 2 ≤ arg) (t2 : arg < cp) (t3 : at' = 0) (t4 : n' = 0) :
    Calls Tryd.prog 43 #[.agg #[.slice A n c, .int .i64 st, .int .i64 cp], .agg #[.int .i64 4, .int .i64 out, .int .i64 arg, .slice A' n' c', .int .i64 at']] w (RightB n cp ⟨4, out, arg, A', n', c', at', set⟩ w) := by
  have hfin : InstOK n cp ⟨4, out, arg, A', n', c', at', set⟩ := .inr (.inr (.inr (.inl ⟨rfl, t0.1, t0.2, t1, t2, t4, t3⟩)))
  have hBp : Blk (((w.alloc (.cells #[.slice A n c, .int .i64 st, .int .i64 cp] 28)).alloc (.cells #[.int .i64 4, .int .i64 out, .int .i64 arg, .slice A' n' c', .int .i64 at'] 64)).alloc (.cells #[.int .i64 0, .int .i64 out, .int .i64 arg, .slice A' n' c', .int .i64 at'] 64)) w.heap.size 28 #[.slice A n c, .int .i64 st, .int .i64 cp] := ((Blk.new w _ _).alloc _).alloc _
  have hb : Below w.heap.size w (((w.alloc (.cells #[.slice A n c, .int .i64 st, .int .i64 cp] 28)).alloc (.cells #[.int .i64 4, .int .i64 out, .int .i64 arg, .slice A' n' c', .int .i64 at'] 64)).alloc (.cells #[.int .i64 0, .int .i64 out, .int .i64 arg, .slice A' n' c', .int .i64 at'] 64)) := (((Below.refl _ _).alloc (Nat.le_refl _) _).alloc (by simp) _).alloc (by simp; omega) _
  have hxW := RgIn.below hx hb
  have q0 : hereB n out = true := hereT t0
  have cH := fun pc => here_any hBp hn pc
  have d1 : decide (arg < 2) = false := decide_eq_false (by omega)
  have d2 : decide (cp ≤ arg) = false := decide_eq_false (by omega)
  have d3 : (at' == 0) = true := beq_iff_eq.2 (by omega)
  have d4 : ((n' : Int) == 0) = true := beq_iff_eq.2 (by omega)
  have HB := Lib.hid hb
  have HF := Lib.hid hfin
  have eg : ∀ args w, (callFunc 55 args).run Tryd.prog w = .ok (.enter 55 args) w := enters_of Tryd.func55 (by kernel_rfl) rfl
  clear hfin hxW hBp hx hb t0 t1 t2 t3 t4
  go_enter Tryd.func43, Tryd.ntmps43
  go_wp2_with (go_at_fn 55; refine (cH _).mono ?_; rintro e w' ⟨rfl, rfl⟩)
  go_ret
  exact rightB_mk ⟨fun _ => HF.out, fun _ => rfl⟩ ((((Below.refl _ _).alloc (Nat.le_refl _) _).alloc (by simp) _).alloc (by simp; omega) _)
set_option maxRecDepth 20000 in
set_option maxHeartbeats 1000000 in
theorem right_5_0 {w : World} {A A' : Option Addr} {n c n' c' : Nat} {st cp out arg at' : Int} {set : List Rg} (hx : RgIn w A' n' c' set) (hn : n ≤ maxLen) (_hs : n' ≤ 1000000) (t0 : ¬ (0 ≤ out ∧ out < (n : Int))) :
    Calls Tryd.prog 43 #[.agg #[.slice A n c, .int .i64 st, .int .i64 cp], .agg #[.int .i64 5, .int .i64 out, .int .i64 arg, .slice A' n' c', .int .i64 at']] w (RightB n cp ⟨5, out, arg, A', n', c', at', set⟩ w) := by
  have hfin : ¬ InstOK n cp ⟨5, out, arg, A', n', c', at', set⟩ := by
    rintro (⟨h1, h2, h3, h4, h5⟩ | ⟨h1, h2, h3, h4, h5, h6, h7⟩ | ⟨h1, h2, h3, h4, h5, h6, h7⟩ | ⟨h1, h2, h3, h4, h5, h6, h7⟩ | ⟨h1, h2, h3, h4, h5, h6⟩)
    all_goals simp only at *
    all_goals omega
  have hBp : Blk (((w.alloc (.cells #[.slice A n c, .int .i64 st, .int .i64 cp] 28)).alloc (.cells #[.int .i64 5, .int .i64 out, .int .i64 arg, .slice A' n' c', .int .i64 at'] 64)).alloc (.cells #[.int .i64 0, .int .i64 out, .int .i64 arg, .slice A' n' c', .int .i64 at'] 64)) w.heap.size 28 #[.slice A n c, .int .i64 st, .int .i64 cp] := ((Blk.new w _ _).alloc _).alloc _
  have hb : Below w.heap.size w (((w.alloc (.cells #[.slice A n c, .int .i64 st, .int .i64 cp] 28)).alloc (.cells #[.int .i64 5, .int .i64 out, .int .i64 arg, .slice A' n' c', .int .i64 at'] 64)).alloc (.cells #[.int .i64 0, .int .i64 out, .int .i64 arg, .slice A' n' c', .int .i64 at'] 64)) := (((Below.refl _ _).alloc (Nat.le_refl _) _).alloc (by simp) _).alloc (by simp; omega) _
  have hxW := RgIn.below hx hb
  have q0 : hereB n out = false := hereF t0
  have cH := fun pc => here_any hBp hn pc
  have hAb := Lib.hid (hb.alloc hb.size (.cells #[.int .i64 1, .int .i64 2, .int .i64 4, .int .i64 8, .int .i64 16, .int .i64 32] 62))
  have HB := Lib.hid hb
  have HF := Lib.hid hfin
  have eg : ∀ args w, (callFunc 55 args).run Tryd.prog w = .ok (.enter 55 args) w := enters_of Tryd.func55 (by kernel_rfl) rfl
  clear hfin hxW hBp hx hb t0
  go_enter Tryd.func43, Tryd.ntmps43
  go_wp2_with (go_at_fn 55; refine (cH _).mono ?_; rintro e w' ⟨rfl, rfl⟩)
  go_ret
  exact rightB_mk ⟨fun h => (by cases h), fun h => absurd h HF.out⟩ (by first | exact (((Below.refl _ _).alloc (Nat.le_refl _) _).alloc (by simp) _).alloc (by simp; omega) _ | exact ((((Below.refl _ _).alloc (Nat.le_refl _) _).alloc (by simp) _).alloc (by simp; omega) _).alloc (by simp; omega) _ | exact ((((((Below.refl _ _).alloc (Nat.le_refl _) _).alloc (by simp) _).alloc (by simp; omega) _).alloc (by simp; omega) _).setCell (by show _ ≤ _ + 2; omega) _).setCell (by show _ ≤ _ + 2; omega) _)
set_option maxRecDepth 20000 in
set_option maxHeartbeats 1000000 in
theorem right_5_1 {w : World} {A A' : Option Addr} {n c n' c' : Nat} {st cp out arg at' : Int} {set : List Rg} (hx : RgIn w A' n' c' set) (hn : n ≤ maxLen) (_hs : n' ≤ 1000000) (t0 : 0 ≤ out ∧ out < (n : Int)) (t1 : ¬ at' ∈ AtL) :
    Calls Tryd.prog 43 #[.agg #[.slice A n c, .int .i64 st, .int .i64 cp], .agg #[.int .i64 5, .int .i64 out, .int .i64 arg, .slice A' n' c', .int .i64 at']] w (RightB n cp ⟨5, out, arg, A', n', c', at', set⟩ w) := by
  have hfin : ¬ InstOK n cp ⟨5, out, arg, A', n', c', at', set⟩ := by
    rw [atL_iff] at t1
    rintro (⟨h1, h2, h3, h4, h5⟩ | ⟨h1, h2, h3, h4, h5, h6, h7⟩ | ⟨h1, h2, h3, h4, h5, h6, h7⟩ | ⟨h1, h2, h3, h4, h5, h6, h7⟩ | ⟨h1, h2, h3, h4, h5, h6⟩)
    all_goals simp only at *
    all_goals omega
  have hBp : Blk (((w.alloc (.cells #[.slice A n c, .int .i64 st, .int .i64 cp] 28)).alloc (.cells #[.int .i64 5, .int .i64 out, .int .i64 arg, .slice A' n' c', .int .i64 at'] 64)).alloc (.cells #[.int .i64 0, .int .i64 out, .int .i64 arg, .slice A' n' c', .int .i64 at'] 64)) w.heap.size 28 #[.slice A n c, .int .i64 st, .int .i64 cp] := ((Blk.new w _ _).alloc _).alloc _
  have hb : Below w.heap.size w (((w.alloc (.cells #[.slice A n c, .int .i64 st, .int .i64 cp] 28)).alloc (.cells #[.int .i64 5, .int .i64 out, .int .i64 arg, .slice A' n' c', .int .i64 at'] 64)).alloc (.cells #[.int .i64 0, .int .i64 out, .int .i64 arg, .slice A' n' c', .int .i64 at'] 64)) := (((Below.refl _ _).alloc (Nat.le_refl _) _).alloc (by simp) _).alloc (by simp; omega) _
  have hxW := RgIn.below hx hb
  have q0 : hereB n out = true := hereT t0
  have cH := fun pc => here_any hBp hn pc
  have hAb := Lib.hid (hb.alloc hb.size (.cells #[.int .i64 1, .int .i64 2, .int .i64 4, .int .i64 8, .int .i64 16, .int .i64 32] 62))
  have hAt := IlIn.lit (((w.alloc (.cells #[.slice A n c, .int .i64 st, .int .i64 cp] 28)).alloc (.cells #[.int .i64 5, .int .i64 out, .int .i64 arg, .slice A' n' c', .int .i64 at'] 64)).alloc (.cells #[.int .i64 0, .int .i64 out, .int .i64 arg, .slice A' n' c', .int .i64 at'] 64)) 62 AtL (by decide)
  have cC : Calls Tryd.prog 57 #[.slice (some ⟨w.heap.size + 3, 0, none⟩) 6 6, .int .i64 at'] ((((w.alloc (.cells #[.slice A n c, .int .i64 st, .int .i64 cp] 28)).alloc (.cells #[.int .i64 5, .int .i64 out, .int .i64 arg, .slice A' n' c', .int .i64 at'] 64)).alloc (.cells #[.int .i64 0, .int .i64 out, .int .i64 arg, .slice A' n' c', .int .i64 at'] 64)).alloc (.cells #[.int .i64 1, .int .i64 2, .int .i64 4, .int .i64 8, .int .i64 16, .int .i64 32] 62)) fun e w' => e = .returned (.bool false) ∧ ((((w.alloc (.cells #[.slice A n c, .int .i64 st, .int .i64 cp] 28)).alloc (.cells #[.int .i64 5, .int .i64 out, .int .i64 arg, .slice A' n' c', .int .i64 at'] 64)).alloc (.cells #[.int .i64 0, .int .i64 out, .int .i64 arg, .slice A' n' c', .int .i64 at'] 64)).alloc (.cells #[.int .i64 1, .int .i64 2, .int .i64 4, .int .i64 8, .int .i64 16, .int .i64 32] 62)) = w' := by
    have h := containsAt_any hAt at'
    rw [decide_eq_false t1] at h
    rw [show (((w.alloc (.cells #[.slice A n c, .int .i64 st, .int .i64 cp] 28)).alloc (.cells #[.int .i64 5, .int .i64 out, .int .i64 arg, .slice A' n' c', .int .i64 at'] 64)).alloc (.cells #[.int .i64 0, .int .i64 out, .int .i64 arg, .slice A' n' c', .int .i64 at'] 64)).heap.size = w.heap.size + 3 by simp] at h
    exact h
  have HB := Lib.hid hb
  have HF := Lib.hid hfin
  have eg : ∀ args w, (callFunc 55 args).run Tryd.prog w = .ok (.enter 55 args) w := enters_of Tryd.func55 (by kernel_rfl) rfl
  clear hfin hxW hBp hx hb hAt t0 t1
  go_enter Tryd.func43, Tryd.ntmps43
  go_wp2_with (first | (go_at_fn 55; refine (cH _).mono ?_; rintro e w' ⟨rfl, rfl⟩) | (go_at_call 57; refine cC.mono ?_; rintro e w' ⟨rfl, rfl⟩))
  go_ret
  exact rightB_mk ⟨fun h => (by cases h), fun h => absurd h HF.out⟩ (by first | exact (((Below.refl _ _).alloc (Nat.le_refl _) _).alloc (by simp) _).alloc (by simp; omega) _ | exact ((((Below.refl _ _).alloc (Nat.le_refl _) _).alloc (by simp) _).alloc (by simp; omega) _).alloc (by simp; omega) _ | exact ((((((Below.refl _ _).alloc (Nat.le_refl _) _).alloc (by simp) _).alloc (by simp; omega) _).alloc (by simp; omega) _).setCell (by show _ ≤ _ + 2; omega) _).setCell (by show _ ≤ _ + 2; omega) _)
set_option maxRecDepth 20000 in
set_option maxHeartbeats 1000000 in
theorem right_5_2 {w : World} {A A' : Option Addr} {n c n' c' : Nat} {st cp out arg at' : Int} {set : List Rg} (hx : RgIn w A' n' c' set) (hn : n ≤ maxLen) (_hs : n' ≤ 1000000) (t0 : 0 ≤ out ∧ out < (n : Int)) (t1 : at' ∈ AtL) (t2 : ¬ arg = 0) :
    Calls Tryd.prog 43 #[.agg #[.slice A n c, .int .i64 st, .int .i64 cp], .agg #[.int .i64 5, .int .i64 out, .int .i64 arg, .slice A' n' c', .int .i64 at']] w (RightB n cp ⟨5, out, arg, A', n', c', at', set⟩ w) := by
  have hfin : ¬ InstOK n cp ⟨5, out, arg, A', n', c', at', set⟩ := by
    rw [atL_iff] at t1
    rintro (⟨h1, h2, h3, h4, h5⟩ | ⟨h1, h2, h3, h4, h5, h6, h7⟩ | ⟨h1, h2, h3, h4, h5, h6, h7⟩ | ⟨h1, h2, h3, h4, h5, h6, h7⟩ | ⟨h1, h2, h3, h4, h5, h6⟩)
    all_goals simp only at *
    all_goals omega
  have hBp : Blk (((w.alloc (.cells #[.slice A n c, .int .i64 st, .int .i64 cp] 28)).alloc (.cells #[.int .i64 5, .int .i64 out, .int .i64 arg, .slice A' n' c', .int .i64 at'] 64)).alloc (.cells #[.int .i64 0, .int .i64 out, .int .i64 arg, .slice A' n' c', .int .i64 at'] 64)) w.heap.size 28 #[.slice A n c, .int .i64 st, .int .i64 cp] := ((Blk.new w _ _).alloc _).alloc _
  have hb : Below w.heap.size w (((w.alloc (.cells #[.slice A n c, .int .i64 st, .int .i64 cp] 28)).alloc (.cells #[.int .i64 5, .int .i64 out, .int .i64 arg, .slice A' n' c', .int .i64 at'] 64)).alloc (.cells #[.int .i64 0, .int .i64 out, .int .i64 arg, .slice A' n' c', .int .i64 at'] 64)) := (((Below.refl _ _).alloc (Nat.le_refl _) _).alloc (by simp) _).alloc (by simp; omega) _
  have hxW := RgIn.below hx hb
  have q0 : hereB n out = true := hereT t0
  have cH := fun pc => here_any hBp hn pc
  have d2 : (arg == 0) = false := beq_eq_false_iff_ne.2 (by omega)
  have hAb := Lib.hid (hb.alloc hb.size (.cells #[.int .i64 1, .int .i64 2, .int .i64 4, .int .i64 8, .int .i64 16, .int .i64 32] 62))
  have hAt := IlIn.lit (((w.alloc (.cells #[.slice A n c, .int .i64 st, .int .i64 cp] 28)).alloc (.cells #[.int .i64 5, .int .i64 out, .int .i64 arg, .slice A' n' c', .int .i64 at'] 64)).alloc (.cells #[.int .i64 0, .int .i64 out, .int .i64 arg, .slice A' n' c', .int .i64 at'] 64)) 62 AtL (by decide)
  have cC : Calls Tryd.prog 57 #[.slice (some ⟨w.heap.size + 3, 0, none⟩) 6 6, .int .i64 at'] ((((w.alloc (.cells #[.slice A n c, .int .i64 st, .int .i64 cp] 28)).alloc (.cells #[.int .i64 5, .int .i64 out, .int .i64 arg, .slice A' n' c', .int .i64 at'] 64)).alloc (.cells #[.int .i64 0, .int .i64 out, .int .i64 arg, .slice A' n' c', .int .i64 at'] 64)).alloc (.cells #[.int .i64 1, .int .i64 2, .int .i64 4, .int .i64 8, .int .i64 16, .int .i64 32] 62)) fun e w' => e = .returned (.bool true) ∧ ((((w.alloc (.cells #[.slice A n c, .int .i64 st, .int .i64 cp] 28)).alloc (.cells #[.int .i64 5, .int .i64 out, .int .i64 arg, .slice A' n' c', .int .i64 at'] 64)).alloc (.cells #[.int .i64 0, .int .i64 out, .int .i64 arg, .slice A' n' c', .int .i64 at'] 64)).alloc (.cells #[.int .i64 1, .int .i64 2, .int .i64 4, .int .i64 8, .int .i64 16, .int .i64 32] 62)) = w' := by
    have h := containsAt_any hAt at'
    rw [decide_eq_true t1] at h
    rw [show (((w.alloc (.cells #[.slice A n c, .int .i64 st, .int .i64 cp] 28)).alloc (.cells #[.int .i64 5, .int .i64 out, .int .i64 arg, .slice A' n' c', .int .i64 at'] 64)).alloc (.cells #[.int .i64 0, .int .i64 out, .int .i64 arg, .slice A' n' c', .int .i64 at'] 64)).heap.size = w.heap.size + 3 by simp] at h
    exact h
  have HB := Lib.hid hb
  have HF := Lib.hid hfin
  have eg : ∀ args w, (callFunc 55 args).run Tryd.prog w = .ok (.enter 55 args) w := enters_of Tryd.func55 (by kernel_rfl) rfl
  clear hfin hxW hBp hx hb hAt t0 t1 t2
  go_enter Tryd.func43, Tryd.ntmps43
  go_wp2_with (first | (go_at_fn 55; refine (cH _).mono ?_; rintro e w' ⟨rfl, rfl⟩) | (go_at_call 57; refine cC.mono ?_; rintro e w' ⟨rfl, rfl⟩))
  go_ret
  exact rightB_mk ⟨fun h => (by cases h), fun h => absurd h HF.out⟩ (by first | exact (((Below.refl _ _).alloc (Nat.le_refl _) _).alloc (by simp) _).alloc (by simp; omega) _ | exact ((((Below.refl _ _).alloc (Nat.le_refl _) _).alloc (by simp) _).alloc (by simp; omega) _).alloc (by simp; omega) _ | exact ((((((Below.refl _ _).alloc (Nat.le_refl _) _).alloc (by simp) _).alloc (by simp; omega) _).alloc (by simp; omega) _).setCell (by show _ ≤ _ + 2; omega) _).setCell (by show _ ≤ _ + 2; omega) _)
set_option maxRecDepth 20000 in
set_option maxHeartbeats 1000000 in
theorem right_5_3 {w : World} {A A' : Option Addr} {n c n' c' : Nat} {st cp out arg at' : Int} {set : List Rg} (hx : RgIn w A' n' c' set) (hn : n ≤ maxLen) (_hs : n' ≤ 1000000) (t0 : 0 ≤ out ∧ out < (n : Int)) (t1 : at' ∈ AtL) (t2 : arg = 0) (t3 : ¬ n' = 0) :
    Calls Tryd.prog 43 #[.agg #[.slice A n c, .int .i64 st, .int .i64 cp], .agg #[.int .i64 5, .int .i64 out, .int .i64 arg, .slice A' n' c', .int .i64 at']] w (RightB n cp ⟨5, out, arg, A', n', c', at', set⟩ w) := by
  have hfin : ¬ InstOK n cp ⟨5, out, arg, A', n', c', at', set⟩ := by
    rw [atL_iff] at t1
    rintro (⟨h1, h2, h3, h4, h5⟩ | ⟨h1, h2, h3, h4, h5, h6, h7⟩ | ⟨h1, h2, h3, h4, h5, h6, h7⟩ | ⟨h1, h2, h3, h4, h5, h6, h7⟩ | ⟨h1, h2, h3, h4, h5, h6⟩)
    all_goals simp only at *
    all_goals omega
  have hBp : Blk (((w.alloc (.cells #[.slice A n c, .int .i64 st, .int .i64 cp] 28)).alloc (.cells #[.int .i64 5, .int .i64 out, .int .i64 arg, .slice A' n' c', .int .i64 at'] 64)).alloc (.cells #[.int .i64 0, .int .i64 out, .int .i64 arg, .slice A' n' c', .int .i64 at'] 64)) w.heap.size 28 #[.slice A n c, .int .i64 st, .int .i64 cp] := ((Blk.new w _ _).alloc _).alloc _
  have hb : Below w.heap.size w (((w.alloc (.cells #[.slice A n c, .int .i64 st, .int .i64 cp] 28)).alloc (.cells #[.int .i64 5, .int .i64 out, .int .i64 arg, .slice A' n' c', .int .i64 at'] 64)).alloc (.cells #[.int .i64 0, .int .i64 out, .int .i64 arg, .slice A' n' c', .int .i64 at'] 64)) := (((Below.refl _ _).alloc (Nat.le_refl _) _).alloc (by simp) _).alloc (by simp; omega) _
  have hxW := RgIn.below hx hb
  have q0 : hereB n out = true := hereT t0
  have cH := fun pc => here_any hBp hn pc
  have d2 : (arg == 0) = true := beq_iff_eq.2 (by omega)
  have d3 : ((n' : Int) == 0) = false := beq_eq_false_iff_ne.2 (by omega)
  have hAb := Lib.hid (hb.alloc hb.size (.cells #[.int .i64 1, .int .i64 2, .int .i64 4, .int .i64 8, .int .i64 16, .int .i64 32] 62))
  have hAt := IlIn.lit (((w.alloc (.cells #[.slice A n c, .int .i64 st, .int .i64 cp] 28)).alloc (.cells #[.int .i64 5, .int .i64 out, .int .i64 arg, .slice A' n' c', .int .i64 at'] 64)).alloc (.cells #[.int .i64 0, .int .i64 out, .int .i64 arg, .slice A' n' c', .int .i64 at'] 64)) 62 AtL (by decide)
  have cC : Calls Tryd.prog 57 #[.slice (some ⟨w.heap.size + 3, 0, none⟩) 6 6, .int .i64 at'] ((((w.alloc (.cells #[.slice A n c, .int .i64 st, .int .i64 cp] 28)).alloc (.cells #[.int .i64 5, .int .i64 out, .int .i64 arg, .slice A' n' c', .int .i64 at'] 64)).alloc (.cells #[.int .i64 0, .int .i64 out, .int .i64 arg, .slice A' n' c', .int .i64 at'] 64)).alloc (.cells #[.int .i64 1, .int .i64 2, .int .i64 4, .int .i64 8, .int .i64 16, .int .i64 32] 62)) fun e w' => e = .returned (.bool true) ∧ ((((w.alloc (.cells #[.slice A n c, .int .i64 st, .int .i64 cp] 28)).alloc (.cells #[.int .i64 5, .int .i64 out, .int .i64 arg, .slice A' n' c', .int .i64 at'] 64)).alloc (.cells #[.int .i64 0, .int .i64 out, .int .i64 arg, .slice A' n' c', .int .i64 at'] 64)).alloc (.cells #[.int .i64 1, .int .i64 2, .int .i64 4, .int .i64 8, .int .i64 16, .int .i64 32] 62)) = w' := by
    have h := containsAt_any hAt at'
    rw [decide_eq_true t1] at h
    rw [show (((w.alloc (.cells #[.slice A n c, .int .i64 st, .int .i64 cp] 28)).alloc (.cells #[.int .i64 5, .int .i64 out, .int .i64 arg, .slice A' n' c', .int .i64 at'] 64)).alloc (.cells #[.int .i64 0, .int .i64 out, .int .i64 arg, .slice A' n' c', .int .i64 at'] 64)).heap.size = w.heap.size + 3 by simp] at h
    exact h
  have HB := Lib.hid hb
  have HF := Lib.hid hfin
  have eg : ∀ args w, (callFunc 55 args).run Tryd.prog w = .ok (.enter 55 args) w := enters_of Tryd.func55 (by kernel_rfl) rfl
  clear hfin hxW hBp hx hb hAt t0 t1 t2 t3
  go_enter Tryd.func43, Tryd.ntmps43
  go_wp2_with (first | (go_at_fn 55; refine (cH _).mono ?_; rintro e w' ⟨rfl, rfl⟩) | (go_at_call 57; refine cC.mono ?_; rintro e w' ⟨rfl, rfl⟩))
  go_ret
  exact rightB_mk ⟨fun h => (by cases h), fun h => absurd h HF.out⟩ (by first | exact (((Below.refl _ _).alloc (Nat.le_refl _) _).alloc (by simp) _).alloc (by simp; omega) _ | exact ((((Below.refl _ _).alloc (Nat.le_refl _) _).alloc (by simp) _).alloc (by simp; omega) _).alloc (by simp; omega) _ | exact ((((((Below.refl _ _).alloc (Nat.le_refl _) _).alloc (by simp) _).alloc (by simp; omega) _).alloc (by simp; omega) _).setCell (by show _ ≤ _ + 2; omega) _).setCell (by show _ ≤ _ + 2; omega) _)
set_option maxRecDepth 20000 in
set_option maxHeartbeats 1000000 in
theorem right_5_4 {w : World} {A A' : Option Addr} {n c n' c' : Nat} {st cp out arg at' : Int} {set : List Rg} (hx : RgIn w A' n' c' set) (hn : n ≤ maxLen) (_hs : n' ≤ 1000000) (t0 : 0 ≤ out ∧ out < (n : Int)) (t1 : at' ∈ AtL) (t2 : arg = 0) (t3 : n' = 0) :
    Calls Tryd.prog 43 #[.agg #[.slice A n c, .int .i64 st, .int .i64 cp], .agg #[.int .i64 5, .int .i64 out, .int .i64 arg, .slice A' n' c', .int .i64 at']] w (RightB n cp ⟨5, out, arg, A', n', c', at', set⟩ w) := by
  have hfin : InstOK n cp ⟨5, out, arg, A', n', c', at', set⟩ := .inr (.inr (.inr (.inr ⟨rfl, t0.1, t0.2, t2, t3, (atL_iff _).1 t1⟩)))
  have hBp : Blk (((w.alloc (.cells #[.slice A n c, .int .i64 st, .int .i64 cp] 28)).alloc (.cells #[.int .i64 5, .int .i64 out, .int .i64 arg, .slice A' n' c', .int .i64 at'] 64)).alloc (.cells #[.int .i64 0, .int .i64 out, .int .i64 arg, .slice A' n' c', .int .i64 at'] 64)) w.heap.size 28 #[.slice A n c, .int .i64 st, .int .i64 cp] := ((Blk.new w _ _).alloc _).alloc _
  have hb : Below w.heap.size w (((w.alloc (.cells #[.slice A n c, .int .i64 st, .int .i64 cp] 28)).alloc (.cells #[.int .i64 5, .int .i64 out, .int .i64 arg, .slice A' n' c', .int .i64 at'] 64)).alloc (.cells #[.int .i64 0, .int .i64 out, .int .i64 arg, .slice A' n' c', .int .i64 at'] 64)) := (((Below.refl _ _).alloc (Nat.le_refl _) _).alloc (by simp) _).alloc (by simp; omega) _
  have hxW := RgIn.below hx hb
  have q0 : hereB n out = true := hereT t0
  have cH := fun pc => here_any hBp hn pc
  have d2 : (arg == 0) = true := beq_iff_eq.2 (by omega)
  have d3 : ((n' : Int) == 0) = true := beq_iff_eq.2 (by omega)
  have hAb := Lib.hid (hb.alloc hb.size (.cells #[.int .i64 1, .int .i64 2, .int .i64 4, .int .i64 8, .int .i64 16, .int .i64 32] 62))
  have hAt := IlIn.lit (((w.alloc (.cells #[.slice A n c, .int .i64 st, .int .i64 cp] 28)).alloc (.cells #[.int .i64 5, .int .i64 out, .int .i64 arg, .slice A' n' c', .int .i64 at'] 64)).alloc (.cells #[.int .i64 0, .int .i64 out, .int .i64 arg, .slice A' n' c', .int .i64 at'] 64)) 62 AtL (by decide)
  have cC : Calls Tryd.prog 57 #[.slice (some ⟨w.heap.size + 3, 0, none⟩) 6 6, .int .i64 at'] ((((w.alloc (.cells #[.slice A n c, .int .i64 st, .int .i64 cp] 28)).alloc (.cells #[.int .i64 5, .int .i64 out, .int .i64 arg, .slice A' n' c', .int .i64 at'] 64)).alloc (.cells #[.int .i64 0, .int .i64 out, .int .i64 arg, .slice A' n' c', .int .i64 at'] 64)).alloc (.cells #[.int .i64 1, .int .i64 2, .int .i64 4, .int .i64 8, .int .i64 16, .int .i64 32] 62)) fun e w' => e = .returned (.bool true) ∧ ((((w.alloc (.cells #[.slice A n c, .int .i64 st, .int .i64 cp] 28)).alloc (.cells #[.int .i64 5, .int .i64 out, .int .i64 arg, .slice A' n' c', .int .i64 at'] 64)).alloc (.cells #[.int .i64 0, .int .i64 out, .int .i64 arg, .slice A' n' c', .int .i64 at'] 64)).alloc (.cells #[.int .i64 1, .int .i64 2, .int .i64 4, .int .i64 8, .int .i64 16, .int .i64 32] 62)) = w' := by
    have h := containsAt_any hAt at'
    rw [decide_eq_true t1] at h
    rw [show (((w.alloc (.cells #[.slice A n c, .int .i64 st, .int .i64 cp] 28)).alloc (.cells #[.int .i64 5, .int .i64 out, .int .i64 arg, .slice A' n' c', .int .i64 at'] 64)).alloc (.cells #[.int .i64 0, .int .i64 out, .int .i64 arg, .slice A' n' c', .int .i64 at'] 64)).heap.size = w.heap.size + 3 by simp] at h
    exact h
  have HB := Lib.hid hb
  have HF := Lib.hid hfin
  have eg : ∀ args w, (callFunc 55 args).run Tryd.prog w = .ok (.enter 55 args) w := enters_of Tryd.func55 (by kernel_rfl) rfl
  clear hfin hxW hBp hx hb hAt t0 t1 t2 t3
  go_enter Tryd.func43, Tryd.ntmps43
  go_wp2_with (first | (go_at_fn 55; refine (cH _).mono ?_; rintro e w' ⟨rfl, rfl⟩) | (go_at_call 57; refine cC.mono ?_; rintro e w' ⟨rfl, rfl⟩))
  go_ret
  exact rightB_mk ⟨fun _ => HF.out, fun _ => rfl⟩ (by first | exact (((Below.refl _ _).alloc (Nat.le_refl _) _).alloc (by simp) _).alloc (by simp; omega) _ | exact ((((Below.refl _ _).alloc (Nat.le_refl _) _).alloc (by simp) _).alloc (by simp; omega) _).alloc (by simp; omega) _ | exact ((((((Below.refl _ _).alloc (Nat.le_refl _) _).alloc (by simp) _).alloc (by simp; omega) _).alloc (by simp; omega) _).setCell (by show _ ≤ _ + 2; omega) _).setCell (by show _ ≤ _ + 2; omega) _)
set_option maxRecDepth 20000 in
set_option maxHeartbeats 1000000 in
theorem prightNo {w : World} {A A' : Option Addr} {n c n' c' : Nat} {st cp op out arg at' : Int} {set : List Rg} (h1 : op ≠ 1) (h2 : op ≠ 2) (h3 : op ≠ 3) (h4 : op ≠ 4) (h5 : op ≠ 5) (h6 : op ≠ 6) :
    Calls Tryd.prog 43 #[.agg #[.slice A n c, .int .i64 st, .int .i64 cp], .agg #[.int .i64 op, .int .i64 out, .int .i64 arg, .slice A' n' c', .int .i64 at']] w (RightB n cp ⟨op, out, arg, A', n', c', at', set⟩ w) := by
  have hfin : ¬ InstOK n cp ⟨op, out, arg, A', n', c', at', set⟩ := by
    rintro (⟨h1, h2, h3, h4, h5⟩ | ⟨h1, h2, h3, h4, h5, h6, h7⟩ | ⟨h1, h2, h3, h4, h5, h6, h7⟩ | ⟨h1, h2, h3, h4, h5, h6, h7⟩ | ⟨h1, h2, h3, h4, h5, h6⟩)
    all_goals simp only at *
    all_goals omega
  have HF := Lib.hid hfin
  have q1 : (op == 1) = false := beq_eq_false_iff_ne.2 h1
  have q2 : (op == 2) = false := beq_eq_false_iff_ne.2 h2
  have q3 : (op == 3) = false := beq_eq_false_iff_ne.2 h3
  have q4 : (op == 4) = false := beq_eq_false_iff_ne.2 h4
  have q5 : (op == 5) = false := beq_eq_false_iff_ne.2 h5
  have q6 : (op == 6) = false := beq_eq_false_iff_ne.2 h6
  clear hfin h1 h2 h3 h4 h5 h6
  go_enter Tryd.func43, Tryd.ntmps43
  go_wp2_with fail
  go_ret
  exact rightB_mk ⟨fun h => (by cases h), fun h => absurd h HF.out⟩ ((((Below.refl _ _).alloc (Nat.le_refl _) _).alloc (by simp) _).alloc (by simp; omega) _)
theorem pright_any {w : World} {A : Option Addr} {n c : Nat} {st cp : Int} (x : MI) (hx : x.In w) (hn : n ≤ maxLen) (hs : x.n ≤ 1000000) :
    Calls Tryd.prog 43 #[.agg #[.slice A n c, .int .i64 st, .int .i64 cp], .agg x.cells.toArray] w (RightB n cp x w) := by
  obtain ⟨op, out, arg, A', n', c', at', set⟩ := x
  have hx' : RgIn w A' n' c' set := hx
  show Calls Tryd.prog 43 #[.agg #[.slice A n c, .int .i64 st, .int .i64 cp], .agg #[.int .i64 op, .int .i64 out, .int .i64 arg, .slice A' n' c', .int .i64 at']] w _
  have hs' : n' ≤ 1000000 := hs
  by_cases o1 : op = 1
  · subst o1
    by_cases t0 : out = 0
    case neg => exact right_1_0 hx' hn hs'  t0
    by_cases t1 : arg = 0
    case neg => exact right_1_1 hx' hn hs' t0 t1
    by_cases t2 : at' = 0
    case neg => exact right_1_2 hx' hn hs' t0 t1 t2
    by_cases t3 : n' = 0
    case neg => exact right_1_3 hx' hn hs' t0 t1 t2 t3
    exact right_1_4 hx' hn hs' t0 t1 t2 t3
  by_cases o6 : op = 6
  · subst o6
    by_cases t0 : out = 0
    case neg => exact right_6_0 hx' hn hs'  t0
    by_cases t1 : arg = 0
    case neg => exact right_6_1 hx' hn hs' t0 t1
    by_cases t2 : at' = 0
    case neg => exact right_6_2 hx' hn hs' t0 t1 t2
    by_cases t3 : n' = 0
    case neg => exact right_6_3 hx' hn hs' t0 t1 t2 t3
    exact right_6_4 hx' hn hs' t0 t1 t2 t3
  by_cases o2 : op = 2
  · subst o2
    by_cases t0 : 0 ≤ out ∧ out < (n : Int)
    case neg => exact right_2_0 hx' hn hs'  t0
    by_cases t1 : 0 < n'
    case neg => exact right_2_1 hx' hn hs' t0 (by omega)
    by_cases t2 : Canon set
    case neg => exact right_2_2 hx' hn hs' t0 t1 t2
    by_cases t3 : arg = 0
    case neg => exact right_2_3 hx' hn hs' t0 t1 t2 t3
    by_cases t4 : at' = 0
    case neg => exact right_2_4 hx' hn hs' t0 t1 t2 t3 t4
    exact right_2_5 hx' hn hs' t0 t1 t2 t3 t4
  by_cases o3 : op = 3
  · subst o3
    by_cases t0 : 0 ≤ out ∧ out < (n : Int)
    case neg => exact right_3_0 hx' hn hs'  t0
    by_cases t1 : 0 ≤ arg ∧ arg < (n : Int)
    case neg => exact right_3_1 hx' hn hs' t0 t1
    by_cases t2 : at' = 0
    case neg => exact right_3_2 hx' hn hs' t0 t1 t2
    by_cases t3 : n' = 0
    case neg => exact right_3_3 hx' hn hs' t0 t1 t2 t3
    exact right_3_4 hx' hn hs' t0 t1 t2 t3
  by_cases o4 : op = 4
  · subst o4
    by_cases t0 : 0 ≤ out ∧ out < (n : Int)
    case neg => exact right_4_0 hx' hn hs'  t0
    by_cases t1 : 2 ≤ arg
    case neg => exact right_4_1 hx' hn hs' t0 t1
    by_cases t2 : arg < cp
    case neg => exact right_4_2 hx' hn hs' t0 t1 t2
    by_cases t3 : at' = 0
    case neg => exact right_4_3 hx' hn hs' t0 t1 t2 t3
    by_cases t4 : n' = 0
    case neg => exact right_4_4 hx' hn hs' t0 t1 t2 t3 t4
    exact right_4_5 hx' hn hs' t0 t1 t2 t3 t4
  by_cases o5 : op = 5
  · subst o5
    by_cases t0 : 0 ≤ out ∧ out < (n : Int)
    case neg => exact right_5_0 hx' hn hs'  t0
    by_cases t1 : at' ∈ AtL
    case neg => exact right_5_1 hx' hn hs' t0 t1
    by_cases t2 : arg = 0
    case neg => exact right_5_2 hx' hn hs' t0 t1 t2
    by_cases t3 : n' = 0
    case neg => exact right_5_3 hx' hn hs' t0 t1 t2 t3
    exact right_5_4 hx' hn hs' t0 t1 t2 t3
  exact prightNo o1 o2 o3 o4 o5 o6
end Go.Proofs.YtbhcgjahlfpjoaaDoor
