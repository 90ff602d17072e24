/- Threads: the set of numbers: reset, add. -/
import Derived.Test.YtbhcgjahlfpjoaaDoorProg
import Derived.Test.YtbhcgjahlfpjoaaDoorTb1
import Derived.Test.YtbhcgjahlfpjoaaDoorHeldU
import Derived.WalkKit
import Derived.WalkSpells
import Derived.WalkLawsBesides
import Derived.KernelRfl
import Derived.Deep.QuietTactic
import Derived.BigQuiet
import Derived.BigGuard
import Derived.Deep.CutBlock
import Derived.Lib.Hide
namespace Go.Proofs.YtbhcgjahlfpjoaaDoor
open Go.RowKit

theorem elIt : ElemOK Tryd.prog 35 3 1 8 := .mk' (z := .int .i64 0) Tryd.underlying35 (by kernel_rfl) rfl (by decide)
theorem elVt : ElemOK Tryd.prog 67 35 1 24 := .mk' (z := .slice none 0 0) Tryd.underlying67 (by kernel_rfl) rfl (by decide)
theorem mkIntsT (w : World) {n : Nat} (hn : n ≤ 1000000) : (Instr.makeSlice 35 (.int .i64 (n : Int)) (.int .i64 (n : Int))).run Tryd.prog w = .ok (.slice (some ⟨w.heap.size, 0, none⟩) n n) (w.alloc (.cells (Array.replicate n (Value.int .i64 0)) 3)) := by
  have hI : (Tryd.prog.info? 3).map (fun i => (i.zero, i.size, i.bytes)) = some (some (.int .i64 0), 1, 8) := by kernel_rfl
  obtain ⟨i, h1, h2, h3, h4⟩ := info_parts hI
  have := run_make (P := Tryd.prog) w 35 3 i (.int .i64 0) elIt.ht h1 h2 .i64 .i64 n n (by omega) (Int.le_refl _) (by rw [h4]; omega) (by omega)
  rw [this, h3, Int.toNat_natCast, Nat.mul_one]
  have e : madeCells (Value.int .i64 0).cells n = Array.replicate n (Value.int .i64 0) := by
    apply Array.ext'
    show (madeCells #[Value.int .i64 0] n).toList = _
    rw [toList_madeCells_one, Array.toList_replicate]
  rw [e]
theorem Rd.of_blk {w : World} {g : Nat} {t : TypeId} {cs : Array Value} (h : Blk w g t cs) : Rd w 0 w.heap.size (some ⟨g, 0, none⟩) cs.toList := fun _ =>
  ⟨g, 0, rfl, Nat.zero_le _, h.lt, fun j u hu => by rw [Nat.zero_add, h.cell]; simpa using hu⟩
section
variable {b0 : Nat} {S : Nat → Prop} {w W : World} {g : Nat} {cells : Array Value} {va vn vv : Value} {ats nums vs : List Value}
theorem RowsM.newA (h : RowsM b0 S w W g cells va vn vv ats nums vs) (n : Nat) (hn : n ≤ 1000000) (hb : b0 ≤ w.heap.size) :
    RowsM b0 S w (W.alloc (.cells (Array.replicate n (Value.int .i64 0)) 3)) g cells (.slice (some ⟨W.heap.size, 0, none⟩) n n) vn vv (List.replicate n (.int .i64 0)) nums vs := by
  have h2 := h.alloc (.cells (Array.replicate n (Value.int .i64 0)) 3)
  have hsz := h.frm.size
  refine ⟨h2.frm, h2.box, ?_, h2.on, h2.ov, .inr fun e => ?_, ?_, h.hg⟩
  · rw [List.length_replicate]
    have := World.ownsRow_lit (base := b0) (size := 1) (e := 3) W (Array.replicate n (Value.int .i64 0)) n (by omega) (by unfold maxLen; omega) (by simp)
    simpa using this
  · have e' : vn.ownBlock = some W.heap.size := e.symm
    have := (h.on.lt _ e').2
    omega
  · rintro k (h1 | h1 | h1)
    · right
      have h1 : W.heap.size = k := by simpa [Value.ownBlock] using h1
      omega
    · exact h.ft k (.inr (.inl h1))
    · exact h.ft k (.inr (.inr h1))
theorem RowsM.cut {N V : Option Addr} {k kc m vc : Nat} (h : RowsM b0 S w W g cells va (.slice N k kc) (.slice V m vc) ats nums vs) : RowsM b0 S w W g cells va (.slice N 0 kc) (.slice V 0 vc) ats [] [] := by
  have h1 : nums.length = k := by
    obtain ⟨_, _, h1, _⟩ := own_form h.on
    injection h1 with _ h1 _
    exact h1.symm
  have h2 : vs.length = m := by
    obtain ⟨_, _, h1, _⟩ := own_form h.ov
    injection h1 with _ h1 _
    exact h1.symm
  have hn := h.on
  have hv := h.ov
  rw [h1] at hn
  rw [h2] at hv
  have e1 : (Value.slice N 0 kc).ownBlock = (Value.slice N k kc).ownBlock := by cases N <;> rfl
  have e2 : (Value.slice V 0 vc).ownBlock = (Value.slice V m vc).ownBlock := by cases V <;> rfl
  refine ⟨h.frm, h.box, h.oa, own_cut0 hn, own_cut0 hv, by rw [e1]; exact h.san, fun q hq => h.ft q ?_, h.hg⟩
  unfold foot at hq ⊢
  rwa [e1, e2] at hq
theorem RowsM.two (h : RowsM b0 S w W g cells va vn vv ats nums vs) {i j : Nat} {x y : Value} (hi : cells[i]? = some x) (hj : cells[j]? = some y) : W.cell? ⟨g, i, none⟩ = some x ∧ W.cell? ⟨g, j, none⟩ = some y :=
  ⟨(h.box.cell i).trans hi, (h.box.cell j).trans hj⟩
end

set_option maxRecDepth 20000 in
set_option maxHeartbeats 4000000 in
theorem add17_any {b0 : Nat} {S : Nat → Prop} {w W : World} {g o : Nat} {cells : Array Value} {A N V : Option Addr} {na ca kc vc : Nat} {ats nums vs : List Value} {pc fn fc : Nat} {F : Option Addr}
    (hM : RowsM b0 S w W g cells (.slice A na ca) (.slice N nums.length kc) (.slice V vs.length vc) ats nums vs)
    (hb : b0 ≤ w.heap.size) (c0 : cells[o]? = some (.slice A na ca)) (c1 : cells[o + 1]? = some (.slice N nums.length kc)) (c2 : cells[o + 2]? = some (.slice V vs.length vc))
    (hpc : pc < na) (hk : nums.length ≤ 1000000) (hl : vs.length = nums.length) :
    Calls Tryd.prog 47 #[.pointer (some ⟨g, o, none⟩), .int .i64 (pc : Int), .slice F fn fc] W fun e W' => e = .returned (.tuple #[]) ∧
      ∃ N' kc' V' vc', RowsM b0 S w W' g ((cells.setIfInBounds (o + 1) (.slice N' (nums.length + 1) kc')).setIfInBounds (o + 2) (.slice V' (vs.length + 1) vc')) (.slice A na ca) (.slice N' (nums.length + 1) kc') (.slice V' (vs.length + 1) vc')
        (ats.set pc (.int .i64 (nums.length : Int))) (nums ++ [.int .i64 (pc : Int)]) (vs ++ [.slice F fn fc]) := by
  have hna : ats.length = na := by
    obtain ⟨_, _, h1, _⟩ := own_form hM.oa
    injection h1 with _ h1 _
    exact h1.symm
  have hoa := hM.oa
  rw [hna] at hoa
  obtain ⟨ga, ca', hA, _, _⟩ := hoa.form (by omega)
  injection hA with hA _ hca
  subst hA
  subst hca
  obtain ⟨cur, hcur, _, hcs, _, hnc, hcm⟩ := own_blk hoa
  have hup : pc < cur.size := by rw [hcs]; omega
  have ipc : (pc : Int) < (na : Int) := by omega
  have hki : (nums.length : Int) ≤ 9223372036854775807 := by omega
  unfold maxLen at hcm
  have hnai : (na : Int) ≤ 9223372036854775807 := by omega
  generalize hk1 : nums.length = k at c1 hk hl hki hM ⊢
  generalize hv1 : vs.length = m at c2 hl hM ⊢
  have HK1 := Lib.hid hk1
  have HV1 := Lib.hid hv1
  have HC0 := Lib.hid c0
  have HC1 := Lib.hid c1
  have HC2 := Lib.hid c2
  have HL := Lib.hid hl
  have HB := Lib.hid hb
  have hd := hM.drew
  have d1 : W.drew.cell? ⟨ga, pc, none⟩ = some cur[pc] := by rw [show W.drew.cell? ⟨ga, pc, none⟩ = W.cell? ⟨ga, pc, none⟩ from rfl, hcur.cell]; exact Array.getElem?_eq_getElem hup
  have d2 : W.drew.frozen? ⟨ga, pc, none⟩ = false := hcur.frozen pc
  have hS := hd.two c0 c1
  generalize cur[pc] = cu at d1
  clear hcur hcs hnc hcm hup hk1 hv1 c0 c1 c2 hl hb hM hoa
  go_enter Tryd.func47, Tryd.ntmps47
  go_upto_region 0 with fail
  refine wp_region_U (S := fun w' => w'.cell? ⟨g, o, none⟩ = some (.slice (some ⟨ga, 0, none⟩) na ca) ∧ w'.cell? ⟨g, o + 1, none⟩ = some (.slice N k kc)) (t := 11) (by kernel_rfl) ?_
  generalize W.drew = W0 at hd d1 d2 hS ⊢
  refine wpAnyU_pure (i := 0) (v := ?_) rfl (by kernel_rfl) (by kernel_rfl) (by kernel_rfl) (fun _ _ _ h => h) (by kernel_rfl) (Or.inl ⟨by rfl, ?_⟩) (Or.inr hS) ?_
  rotate_left
  · (intro w _; go_simp; try with_reducible rfl)
  try simp only [List.getElem_toArray, List.getElem_cons_zero, Act.put, List.setIfInBounds_toArray, List.set_cons_zero, List.set_cons_succ]
  refine wpAnyU_pure (i := 1) (v := ?_) rfl (by kernel_rfl) (by kernel_rfl) (by kernel_rfl) (fun _ _ _ h => h) (by kernel_rfl) (Or.inl ⟨by rfl, ?_⟩) (Or.inr hS) ?_
  rotate_left
  · (intro w _; go_simp; try with_reducible rfl)
  try simp only [List.getElem_toArray, List.getElem_cons_succ, List.getElem_cons_zero, Act.put, List.setIfInBounds_toArray, List.set_cons_zero, List.set_cons_succ]
  refine wpAnyU_pure (i := 2) (v := ?_) rfl (by kernel_rfl) (by kernel_rfl) (by kernel_rfl) (fun _ _ _ h => h) (by kernel_rfl) (Or.inl ⟨by rfl, ?_⟩) (Or.inr hS) ?_
  rotate_left
  · (intro w _; go_simp; try with_reducible rfl)
  try simp only [List.getElem_toArray, List.getElem_cons_succ, List.getElem_cons_zero, Act.put, List.setIfInBounds_toArray, List.set_cons_zero, List.set_cons_succ]
  refine wpAnyU_take (i := 3) (v := ?_) rfl (by kernel_rfl) (by kernel_rfl) (by kernel_rfl) (fun _ _ _ h => h) (by kernel_rfl) (Or.inl ⟨by rfl, ?_⟩) hS ?_
  rotate_left
  · (intro w hS; obtain ⟨s1, s2⟩ := hS; go_simp; try with_reducible rfl)
  try simp only [List.getElem_toArray, List.getElem_cons_succ, List.getElem_cons_zero, Act.put, List.setIfInBounds_toArray, List.set_cons_zero, List.set_cons_succ]
  refine wpAnyU_pure (i := 4) (v := ?_) rfl (by kernel_rfl) (by kernel_rfl) (by kernel_rfl) (fun _ _ _ h => h) (by kernel_rfl) (Or.inl ⟨by rfl, ?_⟩) (Or.inr hS) ?_
  rotate_left
  · (intro w _; go_simp; try with_reducible rfl)
  try simp only [List.getElem_toArray, List.getElem_cons_succ, List.getElem_cons_zero, Act.put, List.setIfInBounds_toArray, List.set_cons_zero, List.set_cons_succ]
  refine wpAnyU_pure (i := 5) (v := ?_) rfl (by kernel_rfl) (by kernel_rfl) (by kernel_rfl) (fun _ _ _ h => h) (by kernel_rfl) (Or.inl ⟨by rfl, ?_⟩) (Or.inr hS) ?_
  rotate_left
  · (intro w _; go_simp; try with_reducible rfl)
  try simp only [List.getElem_toArray, List.getElem_cons_succ, List.getElem_cons_zero, Act.put, List.setIfInBounds_toArray, List.set_cons_zero, List.set_cons_succ]
  refine wpAnyU_pure (i := 6) (v := ?_) rfl (by kernel_rfl) (by kernel_rfl) (by kernel_rfl) (fun _ _ _ h => h) (by kernel_rfl) (Or.inl ⟨by rfl, ?_⟩) (Or.inr hS) ?_
  rotate_left
  · (intro w _; go_simp; try with_reducible rfl)
  try simp only [List.getElem_toArray, List.getElem_cons_succ, List.getElem_cons_zero, Act.put, List.setIfInBounds_toArray, List.set_cons_zero, List.set_cons_succ]
  refine wpAnyU_pure (i := 7) (v := ?_) rfl (by kernel_rfl) (by kernel_rfl) (by kernel_rfl) (fun _ _ _ h => h) (by kernel_rfl) (Or.inl ⟨by rfl, ?_⟩) (Or.inr hS) ?_
  rotate_left
  · (intro w _; go_simp; try with_reducible rfl)
  try simp only [List.getElem_toArray, List.getElem_cons_succ, List.getElem_cons_zero, Act.put, List.setIfInBounds_toArray, List.set_cons_zero, List.set_cons_succ]
  refine wpAnyU_take (i := 8) (v := ?_) rfl (by kernel_rfl) (by kernel_rfl) (by kernel_rfl) (fun _ _ _ h => h) (by kernel_rfl) (Or.inl ⟨by rfl, ?_⟩) hS ?_
  rotate_left
  · (intro w hS; obtain ⟨s1, s2⟩ := hS; go_simp; try with_reducible rfl)
  try simp only [List.getElem_toArray, List.getElem_cons_succ, List.getElem_cons_zero, Act.put, List.setIfInBounds_toArray, List.set_cons_zero, List.set_cons_succ]
  refine wpAnyU_take (i := 9) (v := ?_) rfl (by kernel_rfl) (by kernel_rfl) (by kernel_rfl) (fun _ _ _ h => h) (by kernel_rfl) (Or.inl ⟨by rfl, ?_⟩) hS ?_
  rotate_left
  · (intro w hS; obtain ⟨s1, s2⟩ := hS; go_simp; try with_reducible rfl)
  try simp only [List.getElem_toArray, List.getElem_cons_succ, List.getElem_cons_zero, Act.put, List.setIfInBounds_toArray, List.set_cons_zero, List.set_cons_succ]
  refine wpAnyU_pure (i := 10) (v := ?_) rfl (by kernel_rfl) (by kernel_rfl) (by kernel_rfl) (fun _ _ _ h => h) (by kernel_rfl) (Or.inl ⟨by rfl, ?_⟩) (Or.inr hS) ?_
  rotate_left
  · (intro w _; go_simp; try with_reducible rfl)
  try simp only [List.getElem_toArray, List.getElem_cons_succ, List.getElem_cons_zero, Act.put, List.setIfInBounds_toArray, List.set_cons_zero, List.set_cons_succ]
  refine wpAnyU_one (i := 11) (by kernel_rfl) rfl (fun K hK => ?_)
  go_simp
  refine hK _ _ (Or.inl (by rfl)) ?_
  clear hK K
  try simp only [Array.getInternal_eq_getElem, List.getElem_toArray, List.getElem_cons_succ, List.getElem_cons_zero, Act.put, List.setIfInBounds_toArray, List.set_cons_zero, List.set_cons_succ]
  refine wpAnyU_done (by kernel_rfl) ?_ _
  replace hd := (hd.setA pc (.int .i64 (k : Int))).drew
  clear d1 d2 hS
  have hS := hd.two HC1.out HC2.out
  go_upto_region 1 with fail
  refine wp_region_U (S := fun w' => w'.cell? ⟨g, o + 1, none⟩ = some (.slice N k kc) ∧ w'.cell? ⟨g, o + 2, none⟩ = some (.slice V m vc)) (t := 18) (by kernel_rfl) ?_
  generalize (W0.setCell ⟨ga, pc, none⟩ (.int .i64 (k : Int))).drew = W1 at hd hS ⊢
  refine wpAnyU_pure (i := 0) (v := ?_) rfl (by kernel_rfl) (by kernel_rfl) (by kernel_rfl) (fun _ _ _ h => h) (by kernel_rfl) (Or.inl ⟨by rfl, ?_⟩) (Or.inr hS) ?_
  rotate_left
  · (intro w _; go_simp; try with_reducible rfl)
  try simp only [List.getElem_toArray, List.getElem_cons_zero, Act.put, List.setIfInBounds_toArray, List.set_cons_zero, List.set_cons_succ]
  refine wpAnyU_pure (i := 1) (v := ?_) rfl (by kernel_rfl) (by kernel_rfl) (by kernel_rfl) (fun _ _ _ h => h) (by kernel_rfl) (Or.inl ⟨by rfl, ?_⟩) (Or.inr hS) ?_
  rotate_left
  · (intro w _; go_simp; try with_reducible rfl)
  try simp only [List.getElem_toArray, List.getElem_cons_succ, List.getElem_cons_zero, Act.put, List.setIfInBounds_toArray, List.set_cons_zero, List.set_cons_succ]
  refine wpAnyU_pure (i := 2) (v := ?_) rfl (by kernel_rfl) (by kernel_rfl) (by kernel_rfl) (fun _ _ _ h => h) (by kernel_rfl) (Or.inl ⟨by rfl, ?_⟩) (Or.inr hS) ?_
  rotate_left
  · (intro w _; go_simp; try with_reducible rfl)
  try simp only [List.getElem_toArray, List.getElem_cons_succ, List.getElem_cons_zero, Act.put, List.setIfInBounds_toArray, List.set_cons_zero, List.set_cons_succ]
  refine wpAnyU_pure (i := 3) (v := ?_) rfl (by kernel_rfl) (by kernel_rfl) (by kernel_rfl) (fun _ _ _ h => h) (by kernel_rfl) (Or.inl ⟨by rfl, ?_⟩) (Or.inr hS) ?_
  rotate_left
  · (intro w _; go_simp; try with_reducible rfl)
  try simp only [List.getElem_toArray, List.getElem_cons_succ, List.getElem_cons_zero, Act.put, List.setIfInBounds_toArray, List.set_cons_zero, List.set_cons_succ]
  refine wpAnyU_pure (i := 4) (v := ?_) rfl (by kernel_rfl) (by kernel_rfl) (by kernel_rfl) (fun _ _ _ h => h) (by kernel_rfl) (Or.inl ⟨by rfl, ?_⟩) (Or.inr hS) ?_
  rotate_left
  · (intro w _; go_simp; try with_reducible rfl)
  try simp only [List.getElem_toArray, List.getElem_cons_succ, List.getElem_cons_zero, Act.put, List.setIfInBounds_toArray, List.set_cons_zero, List.set_cons_succ]
  refine wpAnyU_take (i := 5) (v := ?_) rfl (by kernel_rfl) (by kernel_rfl) (by kernel_rfl) (fun _ _ _ h => h) (by kernel_rfl) (Or.inl ⟨by rfl, ?_⟩) hS ?_
  rotate_left
  · (intro w hS; obtain ⟨s1, s2⟩ := hS; go_simp; try with_reducible rfl)
  try simp only [List.getElem_toArray, List.getElem_cons_succ, List.getElem_cons_zero, Act.put, List.setIfInBounds_toArray, List.set_cons_zero, List.set_cons_succ]
  refine wpAnyU_pure (i := 6) (v := ?_) rfl (by kernel_rfl) (by kernel_rfl) (by kernel_rfl) (fun _ _ _ h => h) (by kernel_rfl) (Or.inl ⟨by rfl, ?_⟩) (Or.inr hS) ?_
  rotate_left
  · (intro w _; go_simp; try with_reducible rfl)
  try simp only [List.getElem_toArray, List.getElem_cons_succ, List.getElem_cons_zero, Act.put, List.setIfInBounds_toArray, List.set_cons_zero, List.set_cons_succ]
  refine wpAnyU_pure (i := 9) (v := ?_) rfl (by kernel_rfl) (by kernel_rfl) (by kernel_rfl) (fun _ _ _ h => h) (by kernel_rfl) (Or.inl ⟨by rfl, ?_⟩) (Or.inr hS) ?_
  rotate_left
  · (intro w _; go_simp; try with_reducible rfl)
  try simp only [List.getElem_toArray, List.getElem_cons_succ, List.getElem_cons_zero, Act.put, List.setIfInBounds_toArray, List.set_cons_zero, List.set_cons_succ]
  refine wpAnyU_pure (i := 10) (v := ?_) rfl (by kernel_rfl) (by kernel_rfl) (by kernel_rfl) (fun _ _ _ h => h) (by kernel_rfl) (Or.inl ⟨by rfl, ?_⟩) (Or.inr hS) ?_
  rotate_left
  · (intro w _; go_simp; try with_reducible rfl)
  try simp only [List.getElem_toArray, List.getElem_cons_succ, List.getElem_cons_zero, Act.put, List.setIfInBounds_toArray, List.set_cons_zero, List.set_cons_succ]
  refine wpAnyU_pure (i := 11) (v := ?_) rfl (by kernel_rfl) (by kernel_rfl) (by kernel_rfl) (fun _ _ _ h => h) (by kernel_rfl) (Or.inl ⟨by rfl, ?_⟩) (Or.inr hS) ?_
  rotate_left
  · (intro w _; go_simp; try with_reducible rfl)
  try simp only [List.getElem_toArray, List.getElem_cons_succ, List.getElem_cons_zero, Act.put, List.setIfInBounds_toArray, List.set_cons_zero, List.set_cons_succ]
  refine wpAnyU_take (i := 12) (v := ?_) rfl (by kernel_rfl) (by kernel_rfl) (by kernel_rfl) (fun _ _ _ h => h) (by kernel_rfl) (Or.inl ⟨by rfl, ?_⟩) hS ?_
  rotate_left
  · (intro w hS; obtain ⟨s1, s2⟩ := hS; go_simp; try with_reducible rfl)
  try simp only [List.getElem_toArray, List.getElem_cons_succ, List.getElem_cons_zero, Act.put, List.setIfInBounds_toArray, List.set_cons_zero, List.set_cons_succ]
  refine wpAnyU_pure (i := 13) (v := ?_) rfl (by kernel_rfl) (by kernel_rfl) (by kernel_rfl) (fun _ _ _ h => h) (by kernel_rfl) (Or.inl ⟨by rfl, ?_⟩) (Or.inr hS) ?_
  rotate_left
  · (intro w _; go_simp; try with_reducible rfl)
  try simp only [List.getElem_toArray, List.getElem_cons_succ, List.getElem_cons_zero, Act.put, List.setIfInBounds_toArray, List.set_cons_zero, List.set_cons_succ]
  refine wpAnyU_two (i := 7) (j := 14) (by kernel_rfl) rfl rfl (fun K hK => ?_) (fun K hK => ?_)
  · skip
    go_simp
    have hb7 := Blk.new W1 3 #[.int .i64 (pc : Int)]
    replace hd := hd.alloc (.cells #[.int .i64 (pc : Int)] 3)
    clear hS
    generalize W1.alloc (.cells #[.int .i64 (pc : Int)] 3) = W1_7 at hd hb7 ⊢
    generalize W1.heap.size = x7 at hb7 ⊢
    replace hS := hd.two HC1.out HC2.out
    refine hK _ _ (Or.inr hS) ?_
    clear hK K
    try simp only [Array.getInternal_eq_getElem, List.getElem_toArray, List.getElem_cons_succ, List.getElem_cons_zero, Act.put, List.setIfInBounds_toArray, List.set_cons_zero, List.set_cons_succ]
    refine wpAnyU_two (i := 8) (j := 14) (by kernel_rfl) rfl rfl (fun K hK => ?_) (fun K hK => ?_)
    · skip
      refine step_app _ (by rfl) _ _ 35 (by rfl) b0 3 elIt (.slice N k kc) k nums (by rfl) (by have := hd.on; rwa [HK1.out] at this) 0 W1_7.heap.size (some ⟨x7, 0, none⟩) 1 1 [.int .i64 (pc : Int)] (by rfl) (fun h => by cases h) rfl (Rd.of_blk hb7) (by simp [Value.oneCell']) (by unfold maxLen; omega) (by omega) (Nat.le_trans HB.out hd.frm.size) ?_
      intro v1 W1_7_8 hv1 hg1 ha1 _
      replace hd := hd.appN (x := .int .i64 (pc : Int)) (v' := v1) (by rw [HK1.out]; exact hv1) hg1 ha1
      obtain ⟨N1, kc1, rfl, _, _⟩ := own_form hv1
      clear hv1 hg1 ha1 hS hb7
      replace hS := hd.two HC1.out HC2.out
      refine hK _ _ (Or.inr hS) ?_
      clear hK K
      try simp only [List.getElem_toArray, List.getElem_cons_succ, List.getElem_cons_zero, Act.put, List.setIfInBounds_toArray, List.set_cons_zero, List.set_cons_succ]
      refine wpAnyU_one (i := 14) (by kernel_rfl) rfl (fun K hK => ?_)
      go_simp
      have hb14 := Blk.new W1_7_8 35 #[.slice F fn fc]
      replace hd := hd.alloc (.cells #[.slice F fn fc] 35)
      clear hS
      generalize W1_7_8.alloc (.cells #[.slice F fn fc] 35) = W1_7_8_14 at hd hb14 ⊢
      generalize W1_7_8.heap.size = x14 at hb14 ⊢
      replace hS := hd.two HC1.out HC2.out
      refine hK _ _ (Or.inr hS) ?_
      clear hK K
      try simp only [Array.getInternal_eq_getElem, List.getElem_toArray, List.getElem_cons_succ, List.getElem_cons_zero, Act.put, List.setIfInBounds_toArray, List.set_cons_zero, List.set_cons_succ]
      refine wpAnyU_one (i := 15) (by kernel_rfl) rfl (fun K hK => ?_)
      refine step_app _ (by rfl) _ _ 67 (by rfl) b0 35 elVt (.slice V m vc) m vs (by rfl) (by have := hd.ov; rwa [HV1.out] at this) 0 W1_7_8_14.heap.size (some ⟨x14, 0, none⟩) 1 1 [.slice F fn fc] (by rfl) (fun h => by cases h) rfl (Rd.of_blk hb14) (by simp [Value.oneCell']) (by have := HL.out; unfold maxLen; omega) (by have := HL.out; omega) (Nat.le_trans HB.out hd.frm.size) ?_
      intro v2 W1_7_8_14_15 hv2 hg2 ha2 _
      replace hd := hd.appV (x := .slice F fn fc) (v' := v2) (by rw [HV1.out]; exact hv2) hg2 ha2
      obtain ⟨V1, vc1, rfl, _, _⟩ := own_form hv2
      clear hv2 hg2 ha2 hS hb14
      replace hS := hd.two HC1.out HC2.out
      refine hK _ _ (Or.inr hS) ?_
      clear hK K
      try simp only [List.getElem_toArray, List.getElem_cons_succ, List.getElem_cons_zero, Act.put, List.setIfInBounds_toArray, List.set_cons_zero, List.set_cons_succ]
      refine wpAnyU_pure (i := 16) (v := ?_) rfl (by kernel_rfl) (by kernel_rfl) (by kernel_rfl) (fun _ _ _ h => h) (by kernel_rfl) (Or.inl ⟨by rfl, ?_⟩) (Or.inr hS) ?_
      rotate_left
      · (intro w _; go_simp; try with_reducible rfl)
      try simp only [List.getElem_toArray, List.getElem_cons_succ, List.getElem_cons_zero, Act.put, List.setIfInBounds_toArray, List.set_cons_zero, List.set_cons_succ]
      refine wpAnyU_pure (i := 17) (v := ?_) rfl (by kernel_rfl) (by kernel_rfl) (by kernel_rfl) (fun _ _ _ h => h) (by kernel_rfl) (Or.inl ⟨by rfl, ?_⟩) (Or.inr hS) ?_
      rotate_left
      · (intro w _; go_simp; try with_reducible rfl)
      try simp only [List.getElem_toArray, List.getElem_cons_succ, List.getElem_cons_zero, Act.put, List.setIfInBounds_toArray, List.set_cons_zero, List.set_cons_succ]
      refine wpAnyU_one (i := 18) (by kernel_rfl) rfl (fun K hK => ?_)
      have e1 := (hd.box.cell (o + 1)).trans HC1.out
      have e2 := hd.box.frozen (o + 1)
      go_simp
      refine hK _ _ (Or.inl (by rfl)) ?_
      clear hK K
      try simp only [Array.getInternal_eq_getElem, List.getElem_toArray, List.getElem_cons_succ, List.getElem_cons_zero, Act.put, List.setIfInBounds_toArray, List.set_cons_zero, List.set_cons_succ]
      refine wpAnyU_pure (i := 19) (v := ?_) rfl (by kernel_rfl) (by kernel_rfl) (by kernel_rfl) (fun _ _ _ h => h) (by kernel_rfl) (Or.inl ⟨by rfl, ?_⟩) (Or.inl (by rfl)) ?_
      rotate_left
      · (intro w _; go_simp; try with_reducible rfl)
      try simp only [List.getElem_toArray, List.getElem_cons_succ, List.getElem_cons_zero, Act.put, List.setIfInBounds_toArray, List.set_cons_zero, List.set_cons_succ]
      refine wpAnyU_pure (i := 20) (v := ?_) rfl (by kernel_rfl) (by kernel_rfl) (by kernel_rfl) (fun _ _ _ h => h) (by kernel_rfl) (Or.inl ⟨by rfl, ?_⟩) (Or.inl (by rfl)) ?_
      rotate_left
      · (intro w _; go_simp; try with_reducible rfl)
      try simp only [List.getElem_toArray, List.getElem_cons_succ, List.getElem_cons_zero, Act.put, List.setIfInBounds_toArray, List.set_cons_zero, List.set_cons_succ]
      refine wpAnyU_one (i := 21) (by kernel_rfl) rfl (fun K hK => ?_)
      replace hd := hd.setG (o + 1) (.slice N1 (k + 1) kc1)
      have e3 := (hd.box.cell (o + 2)).trans (show _ = some (Value.slice V m vc) by rw [Array.getElem?_setIfInBounds_ne (by omega)]; exact HC2.out)
      have e4 := hd.box.frozen (o + 2)
      clear e1 e2
      generalize hWW : W1_7_8_14_15.setCell ⟨g, o + 1, none⟩ (.slice N1 (k + 1) kc1) = W3 at hd e3 e4 ⊢
      clear hWW
      go_simp
      refine hK _ _ (Or.inl (by rfl)) ?_
      clear hK K
      try simp only [Array.getInternal_eq_getElem, List.getElem_toArray, List.getElem_cons_succ, List.getElem_cons_zero, Act.put, List.setIfInBounds_toArray, List.set_cons_zero, List.set_cons_succ]
      refine wpAnyU_done (by kernel_rfl) ?_ _
      replace hd := hd.setG (o + 2) (.slice V1 (m + 1) vc1)
      clear e3 e4
      go_wp2_with fail
      first | (refine bodyPost_ret (results_none (by rfl) _ _ _) (by rfl) ?_) | (refine bodyPost_end (results_none (by rfl) _ _ _) (by rfl) ?_)
      exact ⟨rfl, N1, kc1, V1, vc1, hd⟩
    · skip
      go_simp
      have hb14 := Blk.new W1_7 35 #[.slice F fn fc]
      replace hb7 := hb7.alloc (.cells #[.slice F fn fc] 35)
      replace hd := hd.alloc (.cells #[.slice F fn fc] 35)
      clear hS
      generalize W1_7.alloc (.cells #[.slice F fn fc] 35) = W1_7_14 at hd hb14 hb7 ⊢
      generalize W1_7.heap.size = x14 at hb14 ⊢
      replace hS := hd.two HC1.out HC2.out
      refine hK _ _ (Or.inr hS) ?_
      clear hK K
      try simp only [Array.getInternal_eq_getElem, List.getElem_toArray, List.getElem_cons_succ, List.getElem_cons_zero, Act.put, List.setIfInBounds_toArray, List.set_cons_zero, List.set_cons_succ]
      refine wpAnyU_one (i := 8) (by kernel_rfl) rfl (fun K hK => ?_)
      refine step_app _ (by rfl) _ _ 35 (by rfl) b0 3 elIt (.slice N k kc) k nums (by rfl) (by have := hd.on; rwa [HK1.out] at this) 0 W1_7_14.heap.size (some ⟨x7, 0, none⟩) 1 1 [.int .i64 (pc : Int)] (by rfl) (fun h => by cases h) rfl (Rd.of_blk hb7) (by simp [Value.oneCell']) (by unfold maxLen; omega) (by omega) (Nat.le_trans HB.out hd.frm.size) ?_
      intro v1 W1_7_14_8 hv1 hg1 ha1 _
      replace hb14 := hb14.grown hg1 (own_ne_blk hd.on hb14 (by decide))
      replace hd := hd.appN (x := .int .i64 (pc : Int)) (v' := v1) (by rw [HK1.out]; exact hv1) hg1 ha1
      obtain ⟨N1, kc1, rfl, _, _⟩ := own_form hv1
      clear hv1 hg1 ha1 hS hb7
      replace hS := hd.two HC1.out HC2.out
      refine hK _ _ (Or.inr hS) ?_
      clear hK K
      try simp only [List.getElem_toArray, List.getElem_cons_succ, List.getElem_cons_zero, Act.put, List.setIfInBounds_toArray, List.set_cons_zero, List.set_cons_succ]
      refine wpAnyU_one (i := 15) (by kernel_rfl) rfl (fun K hK => ?_)
      refine step_app _ (by rfl) _ _ 67 (by rfl) b0 35 elVt (.slice V m vc) m vs (by rfl) (by have := hd.ov; rwa [HV1.out] at this) 0 W1_7_14_8.heap.size (some ⟨x14, 0, none⟩) 1 1 [.slice F fn fc] (by rfl) (fun h => by cases h) rfl (Rd.of_blk hb14) (by simp [Value.oneCell']) (by have := HL.out; unfold maxLen; omega) (by have := HL.out; omega) (Nat.le_trans HB.out hd.frm.size) ?_
      intro v2 W1_7_14_8_15 hv2 hg2 ha2 _
      replace hd := hd.appV (x := .slice F fn fc) (v' := v2) (by rw [HV1.out]; exact hv2) hg2 ha2
      obtain ⟨V1, vc1, rfl, _, _⟩ := own_form hv2
      clear hv2 hg2 ha2 hS hb14
      replace hS := hd.two HC1.out HC2.out
      refine hK _ _ (Or.inr hS) ?_
      clear hK K
      try simp only [List.getElem_toArray, List.getElem_cons_succ, List.getElem_cons_zero, Act.put, List.setIfInBounds_toArray, List.set_cons_zero, List.set_cons_succ]
      refine wpAnyU_pure (i := 16) (v := ?_) rfl (by kernel_rfl) (by kernel_rfl) (by kernel_rfl) (fun _ _ _ h => h) (by kernel_rfl) (Or.inl ⟨by rfl, ?_⟩) (Or.inr hS) ?_
      rotate_left
      · (intro w _; go_simp; try with_reducible rfl)
      try simp only [List.getElem_toArray, List.getElem_cons_succ, List.getElem_cons_zero, Act.put, List.setIfInBounds_toArray, List.set_cons_zero, List.set_cons_succ]
      refine wpAnyU_pure (i := 17) (v := ?_) rfl (by kernel_rfl) (by kernel_rfl) (by kernel_rfl) (fun _ _ _ h => h) (by kernel_rfl) (Or.inl ⟨by rfl, ?_⟩) (Or.inr hS) ?_
      rotate_left
      · (intro w _; go_simp; try with_reducible rfl)
      try simp only [List.getElem_toArray, List.getElem_cons_succ, List.getElem_cons_zero, Act.put, List.setIfInBounds_toArray, List.set_cons_zero, List.set_cons_succ]
      refine wpAnyU_one (i := 18) (by kernel_rfl) rfl (fun K hK => ?_)
      have e1 := (hd.box.cell (o + 1)).trans HC1.out
      have e2 := hd.box.frozen (o + 1)
      go_simp
      refine hK _ _ (Or.inl (by rfl)) ?_
      clear hK K
      try simp only [Array.getInternal_eq_getElem, List.getElem_toArray, List.getElem_cons_succ, List.getElem_cons_zero, Act.put, List.setIfInBounds_toArray, List.set_cons_zero, List.set_cons_succ]
      refine wpAnyU_pure (i := 19) (v := ?_) rfl (by kernel_rfl) (by kernel_rfl) (by kernel_rfl) (fun _ _ _ h => h) (by kernel_rfl) (Or.inl ⟨by rfl, ?_⟩) (Or.inl (by rfl)) ?_
      rotate_left
      · (intro w _; go_simp; try with_reducible rfl)
      try simp only [List.getElem_toArray, List.getElem_cons_succ, List.getElem_cons_zero, Act.put, List.setIfInBounds_toArray, List.set_cons_zero, List.set_cons_succ]
      refine wpAnyU_pure (i := 20) (v := ?_) rfl (by kernel_rfl) (by kernel_rfl) (by kernel_rfl) (fun _ _ _ h => h) (by kernel_rfl) (Or.inl ⟨by rfl, ?_⟩) (Or.inl (by rfl)) ?_
      rotate_left
      · (intro w _; go_simp; try with_reducible rfl)
      try simp only [List.getElem_toArray, List.getElem_cons_succ, List.getElem_cons_zero, Act.put, List.setIfInBounds_toArray, List.set_cons_zero, List.set_cons_succ]
      refine wpAnyU_one (i := 21) (by kernel_rfl) rfl (fun K hK => ?_)
      replace hd := hd.setG (o + 1) (.slice N1 (k + 1) kc1)
      have e3 := (hd.box.cell (o + 2)).trans (show _ = some (Value.slice V m vc) by rw [Array.getElem?_setIfInBounds_ne (by omega)]; exact HC2.out)
      have e4 := hd.box.frozen (o + 2)
      clear e1 e2
      generalize hWW : W1_7_14_8_15.setCell ⟨g, o + 1, none⟩ (.slice N1 (k + 1) kc1) = W3 at hd e3 e4 ⊢
      clear hWW
      go_simp
      refine hK _ _ (Or.inl (by rfl)) ?_
      clear hK K
      try simp only [Array.getInternal_eq_getElem, List.getElem_toArray, List.getElem_cons_succ, List.getElem_cons_zero, Act.put, List.setIfInBounds_toArray, List.set_cons_zero, List.set_cons_succ]
      refine wpAnyU_done (by kernel_rfl) ?_ _
      replace hd := hd.setG (o + 2) (.slice V1 (m + 1) vc1)
      clear e3 e4
      go_wp2_with fail
      first | (refine bodyPost_ret (results_none (by rfl) _ _ _) (by rfl) ?_) | (refine bodyPost_end (results_none (by rfl) _ _ _) (by rfl) ?_)
      exact ⟨rfl, N1, kc1, V1, vc1, hd⟩
  · skip
    go_simp
    have hb14 := Blk.new W1 35 #[.slice F fn fc]
    replace hd := hd.alloc (.cells #[.slice F fn fc] 35)
    clear hS
    generalize W1.alloc (.cells #[.slice F fn fc] 35) = W1_14 at hd hb14 ⊢
    generalize W1.heap.size = x14 at hb14 ⊢
    replace hS := hd.two HC1.out HC2.out
    refine hK _ _ (Or.inr hS) ?_
    clear hK K
    try simp only [Array.getInternal_eq_getElem, List.getElem_toArray, List.getElem_cons_succ, List.getElem_cons_zero, Act.put, List.setIfInBounds_toArray, List.set_cons_zero, List.set_cons_succ]
    refine wpAnyU_one (i := 7) (by kernel_rfl) rfl (fun K hK => ?_)
    go_simp
    have hb7 := Blk.new W1_14 3 #[.int .i64 (pc : Int)]
    replace hb14 := hb14.alloc (.cells #[.int .i64 (pc : Int)] 3)
    replace hd := hd.alloc (.cells #[.int .i64 (pc : Int)] 3)
    clear hS
    generalize W1_14.alloc (.cells #[.int .i64 (pc : Int)] 3) = W1_14_7 at hd hb7 hb14 ⊢
    generalize W1_14.heap.size = x7 at hb7 ⊢
    replace hS := hd.two HC1.out HC2.out
    refine hK _ _ (Or.inr hS) ?_
    clear hK K
    try simp only [Array.getInternal_eq_getElem, List.getElem_toArray, List.getElem_cons_succ, List.getElem_cons_zero, Act.put, List.setIfInBounds_toArray, List.set_cons_zero, List.set_cons_succ]
    refine wpAnyU_one (i := 8) (by kernel_rfl) rfl (fun K hK => ?_)
    refine step_app _ (by rfl) _ _ 35 (by rfl) b0 3 elIt (.slice N k kc) k nums (by rfl) (by have := hd.on; rwa [HK1.out] at this) 0 W1_14_7.heap.size (some ⟨x7, 0, none⟩) 1 1 [.int .i64 (pc : Int)] (by rfl) (fun h => by cases h) rfl (Rd.of_blk hb7) (by simp [Value.oneCell']) (by unfold maxLen; omega) (by omega) (Nat.le_trans HB.out hd.frm.size) ?_
    intro v1 W1_14_7_8 hv1 hg1 ha1 _
    replace hb14 := hb14.grown hg1 (own_ne_blk hd.on hb14 (by decide))
    replace hd := hd.appN (x := .int .i64 (pc : Int)) (v' := v1) (by rw [HK1.out]; exact hv1) hg1 ha1
    obtain ⟨N1, kc1, rfl, _, _⟩ := own_form hv1
    clear hv1 hg1 ha1 hS hb7
    replace hS := hd.two HC1.out HC2.out
    refine hK _ _ (Or.inr hS) ?_
    clear hK K
    try simp only [List.getElem_toArray, List.getElem_cons_succ, List.getElem_cons_zero, Act.put, List.setIfInBounds_toArray, List.set_cons_zero, List.set_cons_succ]
    refine wpAnyU_one (i := 15) (by kernel_rfl) rfl (fun K hK => ?_)
    refine step_app _ (by rfl) _ _ 67 (by rfl) b0 35 elVt (.slice V m vc) m vs (by rfl) (by have := hd.ov; rwa [HV1.out] at this) 0 W1_14_7_8.heap.size (some ⟨x14, 0, none⟩) 1 1 [.slice F fn fc] (by rfl) (fun h => by cases h) rfl (Rd.of_blk hb14) (by simp [Value.oneCell']) (by have := HL.out; unfold maxLen; omega) (by have := HL.out; omega) (Nat.le_trans HB.out hd.frm.size) ?_
    intro v2 W1_14_7_8_15 hv2 hg2 ha2 _
    replace hd := hd.appV (x := .slice F fn fc) (v' := v2) (by rw [HV1.out]; exact hv2) hg2 ha2
    obtain ⟨V1, vc1, rfl, _, _⟩ := own_form hv2
    clear hv2 hg2 ha2 hS hb14
    replace hS := hd.two HC1.out HC2.out
    refine hK _ _ (Or.inr hS) ?_
    clear hK K
    try simp only [List.getElem_toArray, List.getElem_cons_succ, List.getElem_cons_zero, Act.put, List.setIfInBounds_toArray, List.set_cons_zero, List.set_cons_succ]
    refine wpAnyU_pure (i := 16) (v := ?_) rfl (by kernel_rfl) (by kernel_rfl) (by kernel_rfl) (fun _ _ _ h => h) (by kernel_rfl) (Or.inl ⟨by rfl, ?_⟩) (Or.inr hS) ?_
    rotate_left
    · (intro w _; go_simp; try with_reducible rfl)
    try simp only [List.getElem_toArray, List.getElem_cons_succ, List.getElem_cons_zero, Act.put, List.setIfInBounds_toArray, List.set_cons_zero, List.set_cons_succ]
    refine wpAnyU_pure (i := 17) (v := ?_) rfl (by kernel_rfl) (by kernel_rfl) (by kernel_rfl) (fun _ _ _ h => h) (by kernel_rfl) (Or.inl ⟨by rfl, ?_⟩) (Or.inr hS) ?_
    rotate_left
    · (intro w _; go_simp; try with_reducible rfl)
    try simp only [List.getElem_toArray, List.getElem_cons_succ, List.getElem_cons_zero, Act.put, List.setIfInBounds_toArray, List.set_cons_zero, List.set_cons_succ]
    refine wpAnyU_one (i := 18) (by kernel_rfl) rfl (fun K hK => ?_)
    have e1 := (hd.box.cell (o + 1)).trans HC1.out
    have e2 := hd.box.frozen (o + 1)
    go_simp
    refine hK _ _ (Or.inl (by rfl)) ?_
    clear hK K
    try simp only [Array.getInternal_eq_getElem, List.getElem_toArray, List.getElem_cons_succ, List.getElem_cons_zero, Act.put, List.setIfInBounds_toArray, List.set_cons_zero, List.set_cons_succ]
    refine wpAnyU_pure (i := 19) (v := ?_) rfl (by kernel_rfl) (by kernel_rfl) (by kernel_rfl) (fun _ _ _ h => h) (by kernel_rfl) (Or.inl ⟨by rfl, ?_⟩) (Or.inl (by rfl)) ?_
    rotate_left
    · (intro w _; go_simp; try with_reducible rfl)
    try simp only [List.getElem_toArray, List.getElem_cons_succ, List.getElem_cons_zero, Act.put, List.setIfInBounds_toArray, List.set_cons_zero, List.set_cons_succ]
    refine wpAnyU_pure (i := 20) (v := ?_) rfl (by kernel_rfl) (by kernel_rfl) (by kernel_rfl) (fun _ _ _ h => h) (by kernel_rfl) (Or.inl ⟨by rfl, ?_⟩) (Or.inl (by rfl)) ?_
    rotate_left
    · (intro w _; go_simp; try with_reducible rfl)
    try simp only [List.getElem_toArray, List.getElem_cons_succ, List.getElem_cons_zero, Act.put, List.setIfInBounds_toArray, List.set_cons_zero, List.set_cons_succ]
    refine wpAnyU_one (i := 21) (by kernel_rfl) rfl (fun K hK => ?_)
    replace hd := hd.setG (o + 1) (.slice N1 (k + 1) kc1)
    have e3 := (hd.box.cell (o + 2)).trans (show _ = some (Value.slice V m vc) by rw [Array.getElem?_setIfInBounds_ne (by omega)]; exact HC2.out)
    have e4 := hd.box.frozen (o + 2)
    clear e1 e2
    generalize hWW : W1_14_7_8_15.setCell ⟨g, o + 1, none⟩ (.slice N1 (k + 1) kc1) = W3 at hd e3 e4 ⊢
    clear hWW
    go_simp
    refine hK _ _ (Or.inl (by rfl)) ?_
    clear hK K
    try simp only [Array.getInternal_eq_getElem, List.getElem_toArray, List.getElem_cons_succ, List.getElem_cons_zero, Act.put, List.setIfInBounds_toArray, List.set_cons_zero, List.set_cons_succ]
    refine wpAnyU_done (by kernel_rfl) ?_ _
    replace hd := hd.setG (o + 2) (.slice V1 (m + 1) vc1)
    clear e3 e4
    go_wp2_with fail
    first | (refine bodyPost_ret (results_none (by rfl) _ _ _) (by rfl) ?_) | (refine bodyPost_end (results_none (by rfl) _ _ _) (by rfl) ?_)
    exact ⟨rfl, N1, kc1, V1, vc1, hd⟩

/-- The places behind a reset: those of before, or nought. -/
def NewAts (ats ats' : List Value) (n : Nat) : Prop := ats' = ats ∨ ats' = List.replicate n (.int .i64 0)
set_option maxRecDepth 20000 in
set_option maxHeartbeats 4000000 in
theorem reset17_any {b0 : Nat} {S : Nat → Prop} {w W : World} {g o : Nat} {cells : Array Value} {A N V : Option Addr} {na ca k kc m vc : Nat} {ats nums vs : List Value}
    (hM : RowsM b0 S w W g cells (.slice A na ca) (.slice N k kc) (.slice V m vc) ats nums vs)
    (hb : b0 ≤ w.heap.size) (c0 : cells[o]? = some (.slice A na ca)) (c1 : cells[o + 1]? = some (.slice N k kc)) (c2 : cells[o + 2]? = some (.slice V m vc)) {n : Nat} (hn : n ≤ 1000000) :
    Calls Tryd.prog 24 #[.pointer (some ⟨g, o, none⟩), .int .i64 (n : Int)] W fun e W' => e = .returned (.tuple #[]) ∧
      ∃ A' na' ca' ats', n ≤ na' ∧ NewAts ats ats' n ∧ RowsM b0 S w W' g (((cells.setIfInBounds o (.slice A' na' ca')).setIfInBounds (o + 1) (.slice N 0 kc)).setIfInBounds (o + 2) (.slice V 0 vc)) (.slice A' na' ca') (.slice N 0 kc) (.slice V 0 vc) ats' [] [] := by
  have d0 := (hM.box.cell o).trans c0
  have hki : (kc : Int) ≤ 9223372036854775807 := by
    obtain ⟨_, _, h1, _, h2⟩ := own_form hM.on
    injection h1 with _ _ h1
    unfold maxLen at h2; omega
  have hmi : (vc : Int) ≤ 9223372036854775807 := by
    obtain ⟨_, _, h1, _, h2⟩ := own_form hM.ov
    injection h1 with _ _ h1
    unfold maxLen at h2; omega
  have hNf : (N = none ∧ k = 0 ∧ kc = 0) ∨ ∃ gn, N = some ⟨gn, 0, none⟩ ∧ k ≤ kc := by
    rcases hM.on.2 with ⟨h1, _⟩ | ⟨gn, cap, cur, h1, _, _, h2, _⟩
    · injection h1 with h1 h2 h3; exact .inl ⟨h1, h2, h3⟩
    · injection h1 with h1 h3 h4; exact .inr ⟨gn, h1, by omega⟩
  have hVf : (V = none ∧ m = 0 ∧ vc = 0) ∨ ∃ gv, V = some ⟨gv, 0, none⟩ ∧ m ≤ vc := by
    rcases hM.ov.2 with ⟨h1, _⟩ | ⟨gn, cap, cur, h1, _, _, h2, _⟩
    · injection h1 with h1 h2 h3; exact .inl ⟨h1, h2, h3⟩
    · injection h1 with h1 h3 h4; exact .inr ⟨gn, h1, by omega⟩
  have HC0 := Lib.hid c0
  have HC1 := Lib.hid c1
  have HC2 := Lib.hid c2
  by_cases hlt : na < n
  · have e1 : decide ((na : Int) < (n : Int)) = true := decide_eq_true (by omega)
    have i1 : (na : Int) < (n : Int) := by omega
    have hd := hM.newA n hn hb
    have f0 := hd.box.frozen o
    have e0 := (hd.box.cell o).trans c0
    have HNN := Lib.hid hn
    clear c0 c1 c2 hn hb hM hlt
    go_enter Tryd.func24, Tryd.ntmps24
    go_wp2_with fail
    simp only [mkIntsT _ HNN.out, Result.andThen_ok]
    go_upto_region 2 with fail
    replace hd := hd.setG o (.slice (some ⟨W.heap.size, 0, none⟩) n n)
    have HC1b : Hid ((cells.setIfInBounds o (.slice (some ⟨W.heap.size, 0, none⟩) n n))[o + 1]? = some (.slice N k kc)) := Lib.hid (by rw [Array.getElem?_setIfInBounds_ne (by omega)]; exact HC1.out)
    have HC2b : Hid ((cells.setIfInBounds o (.slice (some ⟨W.heap.size, 0, none⟩) n n))[o + 2]? = some (.slice V m vc)) := Lib.hid (by rw [Array.getElem?_setIfInBounds_ne (by omega)]; exact HC2.out)
    generalize W.heap.size = ga at hd HC1b HC2b ⊢
    generalize hcl : cells.setIfInBounds o (.slice (some ⟨ga, 0, none⟩) n n) = cells1 at hd HC1b HC2b ⊢
    have HCL := Lib.hid hcl
    clear hcl
    have hS := hd.drew.two HC1b.out HC2b.out
    replace hd := hd.drew
    have HFIN : Hid (n ≤ n ∧ NewAts ats (List.replicate n (Value.int .i64 0)) n) := Lib.hid ⟨Nat.le_refl _, .inr rfl⟩
    clear d0 f0 e0 HC0 HC1 HC2 e1 i1 HNN
    rcases hNf with ⟨rfl, rfl, rfl⟩ | ⟨gn, rfl, hkk⟩
    · rcases hVf with ⟨rfl, rfl, rfl⟩ | ⟨gv, rfl, hmm⟩
      · skip
        refine wp_region_U (S := fun w' => w'.cell? ⟨g, o + 1, none⟩ = some (.slice none 0 0) ∧ w'.cell? ⟨g, o + 2, none⟩ = some (.slice none 0 0)) (t := 14) (by kernel_rfl) ?_
        generalize ((W.alloc (.cells (Array.replicate n (Value.int .i64 0)) 3)).setCell ⟨g, o, none⟩ (.slice (some ⟨ga, 0, none⟩) n n)).drew = W1 at hd hS ⊢
        refine wpAnyU_pure (i := 0) (v := ?_) rfl (by kernel_rfl) (by kernel_rfl) (by kernel_rfl) (fun _ _ _ h => h) (by kernel_rfl) (Or.inl ⟨by rfl, ?_⟩) (Or.inr hS) ?_
        rotate_left
        · (intro w _; go_simp; try with_reducible rfl)
        try simp only [List.getElem_toArray, List.getElem_cons_zero, Act.put, List.setIfInBounds_toArray, List.set_cons_zero, List.set_cons_succ]
        refine wpAnyU_pure (i := 1) (v := ?_) rfl (by kernel_rfl) (by kernel_rfl) (by kernel_rfl) (fun _ _ _ h => h) (by kernel_rfl) (Or.inl ⟨by rfl, ?_⟩) (Or.inr hS) ?_
        rotate_left
        · (intro w _; go_simp; try with_reducible rfl)
        try simp only [List.getElem_toArray, List.getElem_cons_succ, List.getElem_cons_zero, Act.put, List.setIfInBounds_toArray, List.set_cons_zero, List.set_cons_succ]
        refine wpAnyU_pure (i := 2) (v := ?_) rfl (by kernel_rfl) (by kernel_rfl) (by kernel_rfl) (fun _ _ _ h => h) (by kernel_rfl) (Or.inl ⟨by rfl, ?_⟩) (Or.inr hS) ?_
        rotate_left
        · (intro w _; go_simp; try with_reducible rfl)
        try simp only [List.getElem_toArray, List.getElem_cons_succ, List.getElem_cons_zero, Act.put, List.setIfInBounds_toArray, List.set_cons_zero, List.set_cons_succ]
        refine wpAnyU_pure (i := 3) (v := ?_) rfl (by kernel_rfl) (by kernel_rfl) (by kernel_rfl) (fun _ _ _ h => h) (by kernel_rfl) (Or.inl ⟨by rfl, ?_⟩) (Or.inr hS) ?_
        rotate_left
        · (intro w _; go_simp; try with_reducible rfl)
        try simp only [List.getElem_toArray, List.getElem_cons_succ, List.getElem_cons_zero, Act.put, List.setIfInBounds_toArray, List.set_cons_zero, List.set_cons_succ]
        refine wpAnyU_pure (i := 4) (v := ?_) rfl (by kernel_rfl) (by kernel_rfl) (by kernel_rfl) (fun _ _ _ h => h) (by kernel_rfl) (Or.inl ⟨by rfl, ?_⟩) (Or.inr hS) ?_
        rotate_left
        · (intro w _; go_simp; try with_reducible rfl)
        try simp only [List.getElem_toArray, List.getElem_cons_succ, List.getElem_cons_zero, Act.put, List.setIfInBounds_toArray, List.set_cons_zero, List.set_cons_succ]
        refine wpAnyU_take (i := 5) (v := ?_) rfl (by kernel_rfl) (by kernel_rfl) (by kernel_rfl) (fun _ _ _ h => h) (by kernel_rfl) (Or.inl ⟨by rfl, ?_⟩) hS ?_
        rotate_left
        · (intro w hS; obtain ⟨s1, s2⟩ := hS; go_simp; try with_reducible rfl)
        try simp only [List.getElem_toArray, List.getElem_cons_succ, List.getElem_cons_zero, Act.put, List.setIfInBounds_toArray, List.set_cons_zero, List.set_cons_succ]
        refine wpAnyU_pure (i := 6) (v := ?_) rfl (by kernel_rfl) (by kernel_rfl) (by kernel_rfl) (fun _ _ _ h => h) (by kernel_rfl) (Or.inl ⟨by rfl, ?_⟩) (Or.inr hS) ?_
        rotate_left
        · (intro w _; go_simp; try with_reducible rfl)
        try simp only [List.getElem_toArray, List.getElem_cons_succ, List.getElem_cons_zero, Act.put, List.setIfInBounds_toArray, List.set_cons_zero, List.set_cons_succ]
        refine wpAnyU_pure (i := 7) (v := ?_) rfl (by kernel_rfl) (by kernel_rfl) (by kernel_rfl) (fun _ _ _ h => h) (by kernel_rfl) (Or.inl ⟨by rfl, ?_⟩) (Or.inr hS) ?_
        rotate_left
        · (intro w _; go_simp; try with_reducible rfl)
        try simp only [List.getElem_toArray, List.getElem_cons_succ, List.getElem_cons_zero, Act.put, List.setIfInBounds_toArray, List.set_cons_zero, List.set_cons_succ]
        refine wpAnyU_pure (i := 8) (v := ?_) rfl (by kernel_rfl) (by kernel_rfl) (by kernel_rfl) (fun _ _ _ h => h) (by kernel_rfl) (Or.inl ⟨by rfl, ?_⟩) (Or.inr hS) ?_
        rotate_left
        · (intro w _; go_simp; try with_reducible rfl)
        try simp only [List.getElem_toArray, List.getElem_cons_succ, List.getElem_cons_zero, Act.put, List.setIfInBounds_toArray, List.set_cons_zero, List.set_cons_succ]
        refine wpAnyU_pure (i := 9) (v := ?_) rfl (by kernel_rfl) (by kernel_rfl) (by kernel_rfl) (fun _ _ _ h => h) (by kernel_rfl) (Or.inl ⟨by rfl, ?_⟩) (Or.inr hS) ?_
        rotate_left
        · (intro w _; go_simp; try with_reducible rfl)
        try simp only [List.getElem_toArray, List.getElem_cons_succ, List.getElem_cons_zero, Act.put, List.setIfInBounds_toArray, List.set_cons_zero, List.set_cons_succ]
        refine wpAnyU_take (i := 10) (v := ?_) rfl (by kernel_rfl) (by kernel_rfl) (by kernel_rfl) (fun _ _ _ h => h) (by kernel_rfl) (Or.inl ⟨by rfl, ?_⟩) hS ?_
        rotate_left
        · (intro w hS; obtain ⟨s1, s2⟩ := hS; go_simp; try with_reducible rfl)
        try simp only [List.getElem_toArray, List.getElem_cons_succ, List.getElem_cons_zero, Act.put, List.setIfInBounds_toArray, List.set_cons_zero, List.set_cons_succ]
        refine wpAnyU_pure (i := 11) (v := ?_) rfl (by kernel_rfl) (by kernel_rfl) (by kernel_rfl) (fun _ _ _ h => h) (by kernel_rfl) (Or.inl ⟨by rfl, ?_⟩) (Or.inr hS) ?_
        rotate_left
        · (intro w _; go_simp; try with_reducible rfl)
        try simp only [List.getElem_toArray, List.getElem_cons_succ, List.getElem_cons_zero, Act.put, List.setIfInBounds_toArray, List.set_cons_zero, List.set_cons_succ]
        refine wpAnyU_pure (i := 12) (v := ?_) rfl (by kernel_rfl) (by kernel_rfl) (by kernel_rfl) (fun _ _ _ h => h) (by kernel_rfl) (Or.inl ⟨by rfl, ?_⟩) (Or.inr hS) ?_
        rotate_left
        · (intro w _; go_simp; try with_reducible rfl)
        try simp only [List.getElem_toArray, List.getElem_cons_succ, List.getElem_cons_zero, Act.put, List.setIfInBounds_toArray, List.set_cons_zero, List.set_cons_succ]
        refine wpAnyU_pure (i := 13) (v := ?_) rfl (by kernel_rfl) (by kernel_rfl) (by kernel_rfl) (fun _ _ _ h => h) (by kernel_rfl) (Or.inl ⟨by rfl, ?_⟩) (Or.inr hS) ?_
        rotate_left
        · (intro w _; go_simp; try with_reducible rfl)
        try simp only [List.getElem_toArray, List.getElem_cons_succ, List.getElem_cons_zero, Act.put, List.setIfInBounds_toArray, List.set_cons_zero, List.set_cons_succ]
        refine wpAnyU_one (i := 14) (by kernel_rfl) rfl (fun K hK => ?_)
        have e1 := (hd.box.cell (o + 1)).trans HC1b.out
        have e2 := hd.box.frozen (o + 1)
        go_simp
        refine hK _ _ (Or.inl (by rfl)) ?_
        clear hK K
        try simp only [Array.getInternal_eq_getElem, List.getElem_toArray, List.getElem_cons_succ, List.getElem_cons_zero, Act.put, List.setIfInBounds_toArray, List.set_cons_zero, List.set_cons_succ]
        refine wpAnyU_pure (i := 15) (v := ?_) rfl (by kernel_rfl) (by kernel_rfl) (by kernel_rfl) (fun _ _ _ h => h) (by kernel_rfl) (Or.inl ⟨by rfl, ?_⟩) (Or.inl (by rfl)) ?_
        rotate_left
        · (intro w _; go_simp; try with_reducible rfl)
        try simp only [List.getElem_toArray, List.getElem_cons_succ, List.getElem_cons_zero, Act.put, List.setIfInBounds_toArray, List.set_cons_zero, List.set_cons_succ]
        refine wpAnyU_pure (i := 16) (v := ?_) rfl (by kernel_rfl) (by kernel_rfl) (by kernel_rfl) (fun _ _ _ h => h) (by kernel_rfl) (Or.inl ⟨by rfl, ?_⟩) (Or.inl (by rfl)) ?_
        rotate_left
        · (intro w _; go_simp; try with_reducible rfl)
        try simp only [List.getElem_toArray, List.getElem_cons_succ, List.getElem_cons_zero, Act.put, List.setIfInBounds_toArray, List.set_cons_zero, List.set_cons_succ]
        refine wpAnyU_one (i := 17) (by kernel_rfl) rfl (fun K hK => ?_)
        replace hd := hd.setG (o + 1) (.slice none 0 0)
        have e3 := (hd.box.cell (o + 2)).trans (show _ = some (Value.slice none 0 0) by rw [Array.getElem?_setIfInBounds_ne (by omega)]; exact HC2b.out)
        have e4 := hd.box.frozen (o + 2)
        clear e1 e2
        generalize hWW : W1.setCell ⟨g, o + 1, none⟩ (.slice none 0 0) = W3 at hd e3 e4 ⊢
        clear hWW
        go_simp
        refine hK _ _ (Or.inl (by rfl)) ?_
        clear hK K
        try simp only [Array.getInternal_eq_getElem, List.getElem_toArray, List.getElem_cons_succ, List.getElem_cons_zero, Act.put, List.setIfInBounds_toArray, List.set_cons_zero, List.set_cons_succ]
        refine wpAnyU_done (by kernel_rfl) ?_ _
        replace hd := (hd.setG (o + 2) (.slice none 0 0)).cut
        clear e3 e4
        go_wp2_with fail
        first | (refine bodyPost_ret (results_none (by rfl) _ _ _) (by rfl) ?_) | (refine bodyPost_end (results_none (by rfl) _ _ _) (by rfl) ?_)
        exact ⟨rfl, some ⟨ga, 0, none⟩, n, n, _, HFIN.out.1, HFIN.out.2, by rw [HCL.out]; exact hd⟩
      · skip
        refine wp_region_U (S := fun w' => w'.cell? ⟨g, o + 1, none⟩ = some (.slice none 0 0) ∧ w'.cell? ⟨g, o + 2, none⟩ = some (.slice (some ⟨gv, 0, none⟩) m vc)) (t := 14) (by kernel_rfl) ?_
        generalize ((W.alloc (.cells (Array.replicate n (Value.int .i64 0)) 3)).setCell ⟨g, o, none⟩ (.slice (some ⟨ga, 0, none⟩) n n)).drew = W1 at hd hS ⊢
        refine wpAnyU_pure (i := 0) (v := ?_) rfl (by kernel_rfl) (by kernel_rfl) (by kernel_rfl) (fun _ _ _ h => h) (by kernel_rfl) (Or.inl ⟨by rfl, ?_⟩) (Or.inr hS) ?_
        rotate_left
        · (intro w _; go_simp; try with_reducible rfl)
        try simp only [List.getElem_toArray, List.getElem_cons_zero, Act.put, List.setIfInBounds_toArray, List.set_cons_zero, List.set_cons_succ]
        refine wpAnyU_pure (i := 1) (v := ?_) rfl (by kernel_rfl) (by kernel_rfl) (by kernel_rfl) (fun _ _ _ h => h) (by kernel_rfl) (Or.inl ⟨by rfl, ?_⟩) (Or.inr hS) ?_
        rotate_left
        · (intro w _; go_simp; try with_reducible rfl)
        try simp only [List.getElem_toArray, List.getElem_cons_succ, List.getElem_cons_zero, Act.put, List.setIfInBounds_toArray, List.set_cons_zero, List.set_cons_succ]
        refine wpAnyU_pure (i := 2) (v := ?_) rfl (by kernel_rfl) (by kernel_rfl) (by kernel_rfl) (fun _ _ _ h => h) (by kernel_rfl) (Or.inl ⟨by rfl, ?_⟩) (Or.inr hS) ?_
        rotate_left
        · (intro w _; go_simp; try with_reducible rfl)
        try simp only [List.getElem_toArray, List.getElem_cons_succ, List.getElem_cons_zero, Act.put, List.setIfInBounds_toArray, List.set_cons_zero, List.set_cons_succ]
        refine wpAnyU_pure (i := 3) (v := ?_) rfl (by kernel_rfl) (by kernel_rfl) (by kernel_rfl) (fun _ _ _ h => h) (by kernel_rfl) (Or.inl ⟨by rfl, ?_⟩) (Or.inr hS) ?_
        rotate_left
        · (intro w _; go_simp; try with_reducible rfl)
        try simp only [List.getElem_toArray, List.getElem_cons_succ, List.getElem_cons_zero, Act.put, List.setIfInBounds_toArray, List.set_cons_zero, List.set_cons_succ]
        refine wpAnyU_pure (i := 4) (v := ?_) rfl (by kernel_rfl) (by kernel_rfl) (by kernel_rfl) (fun _ _ _ h => h) (by kernel_rfl) (Or.inl ⟨by rfl, ?_⟩) (Or.inr hS) ?_
        rotate_left
        · (intro w _; go_simp; try with_reducible rfl)
        try simp only [List.getElem_toArray, List.getElem_cons_succ, List.getElem_cons_zero, Act.put, List.setIfInBounds_toArray, List.set_cons_zero, List.set_cons_succ]
        refine wpAnyU_take (i := 5) (v := ?_) rfl (by kernel_rfl) (by kernel_rfl) (by kernel_rfl) (fun _ _ _ h => h) (by kernel_rfl) (Or.inl ⟨by rfl, ?_⟩) hS ?_
        rotate_left
        · (intro w hS; obtain ⟨s1, s2⟩ := hS; go_simp; try with_reducible rfl)
        try simp only [List.getElem_toArray, List.getElem_cons_succ, List.getElem_cons_zero, Act.put, List.setIfInBounds_toArray, List.set_cons_zero, List.set_cons_succ]
        refine wpAnyU_pure (i := 6) (v := ?_) rfl (by kernel_rfl) (by kernel_rfl) (by kernel_rfl) (fun _ _ _ h => h) (by kernel_rfl) (Or.inl ⟨by rfl, ?_⟩) (Or.inr hS) ?_
        rotate_left
        · (intro w _; go_simp; try with_reducible rfl)
        try simp only [List.getElem_toArray, List.getElem_cons_succ, List.getElem_cons_zero, Act.put, List.setIfInBounds_toArray, List.set_cons_zero, List.set_cons_succ]
        refine wpAnyU_pure (i := 7) (v := ?_) rfl (by kernel_rfl) (by kernel_rfl) (by kernel_rfl) (fun _ _ _ h => h) (by kernel_rfl) (Or.inl ⟨by rfl, ?_⟩) (Or.inr hS) ?_
        rotate_left
        · (intro w _; go_simp; try with_reducible rfl)
        try simp only [List.getElem_toArray, List.getElem_cons_succ, List.getElem_cons_zero, Act.put, List.setIfInBounds_toArray, List.set_cons_zero, List.set_cons_succ]
        refine wpAnyU_pure (i := 8) (v := ?_) rfl (by kernel_rfl) (by kernel_rfl) (by kernel_rfl) (fun _ _ _ h => h) (by kernel_rfl) (Or.inl ⟨by rfl, ?_⟩) (Or.inr hS) ?_
        rotate_left
        · (intro w _; go_simp; try with_reducible rfl)
        try simp only [List.getElem_toArray, List.getElem_cons_succ, List.getElem_cons_zero, Act.put, List.setIfInBounds_toArray, List.set_cons_zero, List.set_cons_succ]
        refine wpAnyU_pure (i := 9) (v := ?_) rfl (by kernel_rfl) (by kernel_rfl) (by kernel_rfl) (fun _ _ _ h => h) (by kernel_rfl) (Or.inl ⟨by rfl, ?_⟩) (Or.inr hS) ?_
        rotate_left
        · (intro w _; go_simp; try with_reducible rfl)
        try simp only [List.getElem_toArray, List.getElem_cons_succ, List.getElem_cons_zero, Act.put, List.setIfInBounds_toArray, List.set_cons_zero, List.set_cons_succ]
        refine wpAnyU_take (i := 10) (v := ?_) rfl (by kernel_rfl) (by kernel_rfl) (by kernel_rfl) (fun _ _ _ h => h) (by kernel_rfl) (Or.inl ⟨by rfl, ?_⟩) hS ?_
        rotate_left
        · (intro w hS; obtain ⟨s1, s2⟩ := hS; go_simp; try with_reducible rfl)
        try simp only [List.getElem_toArray, List.getElem_cons_succ, List.getElem_cons_zero, Act.put, List.setIfInBounds_toArray, List.set_cons_zero, List.set_cons_succ]
        refine wpAnyU_pure (i := 11) (v := ?_) rfl (by kernel_rfl) (by kernel_rfl) (by kernel_rfl) (fun _ _ _ h => h) (by kernel_rfl) (Or.inl ⟨by rfl, ?_⟩) (Or.inr hS) ?_
        rotate_left
        · (intro w _; go_simp; try with_reducible rfl)
        try simp only [List.getElem_toArray, List.getElem_cons_succ, List.getElem_cons_zero, Act.put, List.setIfInBounds_toArray, List.set_cons_zero, List.set_cons_succ]
        refine wpAnyU_pure (i := 12) (v := ?_) rfl (by kernel_rfl) (by kernel_rfl) (by kernel_rfl) (fun _ _ _ h => h) (by kernel_rfl) (Or.inl ⟨by rfl, ?_⟩) (Or.inr hS) ?_
        rotate_left
        · (intro w _; go_simp; try with_reducible rfl)
        try simp only [List.getElem_toArray, List.getElem_cons_succ, List.getElem_cons_zero, Act.put, List.setIfInBounds_toArray, List.set_cons_zero, List.set_cons_succ]
        refine wpAnyU_pure (i := 13) (v := ?_) rfl (by kernel_rfl) (by kernel_rfl) (by kernel_rfl) (fun _ _ _ h => h) (by kernel_rfl) (Or.inl ⟨by rfl, ?_⟩) (Or.inr hS) ?_
        rotate_left
        · (intro w _; go_simp; try with_reducible rfl)
        try simp only [List.getElem_toArray, List.getElem_cons_succ, List.getElem_cons_zero, Act.put, List.setIfInBounds_toArray, List.set_cons_zero, List.set_cons_succ]
        refine wpAnyU_one (i := 14) (by kernel_rfl) rfl (fun K hK => ?_)
        have e1 := (hd.box.cell (o + 1)).trans HC1b.out
        have e2 := hd.box.frozen (o + 1)
        go_simp
        refine hK _ _ (Or.inl (by rfl)) ?_
        clear hK K
        try simp only [Array.getInternal_eq_getElem, List.getElem_toArray, List.getElem_cons_succ, List.getElem_cons_zero, Act.put, List.setIfInBounds_toArray, List.set_cons_zero, List.set_cons_succ]
        refine wpAnyU_pure (i := 15) (v := ?_) rfl (by kernel_rfl) (by kernel_rfl) (by kernel_rfl) (fun _ _ _ h => h) (by kernel_rfl) (Or.inl ⟨by rfl, ?_⟩) (Or.inl (by rfl)) ?_
        rotate_left
        · (intro w _; go_simp; try with_reducible rfl)
        try simp only [List.getElem_toArray, List.getElem_cons_succ, List.getElem_cons_zero, Act.put, List.setIfInBounds_toArray, List.set_cons_zero, List.set_cons_succ]
        refine wpAnyU_pure (i := 16) (v := ?_) rfl (by kernel_rfl) (by kernel_rfl) (by kernel_rfl) (fun _ _ _ h => h) (by kernel_rfl) (Or.inl ⟨by rfl, ?_⟩) (Or.inl (by rfl)) ?_
        rotate_left
        · (intro w _; go_simp; try with_reducible rfl)
        try simp only [List.getElem_toArray, List.getElem_cons_succ, List.getElem_cons_zero, Act.put, List.setIfInBounds_toArray, List.set_cons_zero, List.set_cons_succ]
        refine wpAnyU_one (i := 17) (by kernel_rfl) rfl (fun K hK => ?_)
        replace hd := hd.setG (o + 1) (.slice none 0 0)
        have e3 := (hd.box.cell (o + 2)).trans (show _ = some (Value.slice (some ⟨gv, 0, none⟩) m vc) by rw [Array.getElem?_setIfInBounds_ne (by omega)]; exact HC2b.out)
        have e4 := hd.box.frozen (o + 2)
        clear e1 e2
        generalize hWW : W1.setCell ⟨g, o + 1, none⟩ (.slice none 0 0) = W3 at hd e3 e4 ⊢
        clear hWW
        go_simp
        refine hK _ _ (Or.inl (by rfl)) ?_
        clear hK K
        try simp only [Array.getInternal_eq_getElem, List.getElem_toArray, List.getElem_cons_succ, List.getElem_cons_zero, Act.put, List.setIfInBounds_toArray, List.set_cons_zero, List.set_cons_succ]
        refine wpAnyU_done (by kernel_rfl) ?_ _
        replace hd := (hd.setG (o + 2) (.slice (some ⟨gv, 0, none⟩) 0 vc)).cut
        clear e3 e4
        go_wp2_with fail
        first | (refine bodyPost_ret (results_none (by rfl) _ _ _) (by rfl) ?_) | (refine bodyPost_end (results_none (by rfl) _ _ _) (by rfl) ?_)
        exact ⟨rfl, some ⟨ga, 0, none⟩, n, n, _, HFIN.out.1, HFIN.out.2, by rw [HCL.out]; exact hd⟩
    · rcases hVf with ⟨rfl, rfl, rfl⟩ | ⟨gv, rfl, hmm⟩
      · skip
        refine wp_region_U (S := fun w' => w'.cell? ⟨g, o + 1, none⟩ = some (.slice (some ⟨gn, 0, none⟩) k kc) ∧ w'.cell? ⟨g, o + 2, none⟩ = some (.slice none 0 0)) (t := 14) (by kernel_rfl) ?_
        generalize ((W.alloc (.cells (Array.replicate n (Value.int .i64 0)) 3)).setCell ⟨g, o, none⟩ (.slice (some ⟨ga, 0, none⟩) n n)).drew = W1 at hd hS ⊢
        refine wpAnyU_pure (i := 0) (v := ?_) rfl (by kernel_rfl) (by kernel_rfl) (by kernel_rfl) (fun _ _ _ h => h) (by kernel_rfl) (Or.inl ⟨by rfl, ?_⟩) (Or.inr hS) ?_
        rotate_left
        · (intro w _; go_simp; try with_reducible rfl)
        try simp only [List.getElem_toArray, List.getElem_cons_zero, Act.put, List.setIfInBounds_toArray, List.set_cons_zero, List.set_cons_succ]
        refine wpAnyU_pure (i := 1) (v := ?_) rfl (by kernel_rfl) (by kernel_rfl) (by kernel_rfl) (fun _ _ _ h => h) (by kernel_rfl) (Or.inl ⟨by rfl, ?_⟩) (Or.inr hS) ?_
        rotate_left
        · (intro w _; go_simp; try with_reducible rfl)
        try simp only [List.getElem_toArray, List.getElem_cons_succ, List.getElem_cons_zero, Act.put, List.setIfInBounds_toArray, List.set_cons_zero, List.set_cons_succ]
        refine wpAnyU_pure (i := 2) (v := ?_) rfl (by kernel_rfl) (by kernel_rfl) (by kernel_rfl) (fun _ _ _ h => h) (by kernel_rfl) (Or.inl ⟨by rfl, ?_⟩) (Or.inr hS) ?_
        rotate_left
        · (intro w _; go_simp; try with_reducible rfl)
        try simp only [List.getElem_toArray, List.getElem_cons_succ, List.getElem_cons_zero, Act.put, List.setIfInBounds_toArray, List.set_cons_zero, List.set_cons_succ]
        refine wpAnyU_pure (i := 3) (v := ?_) rfl (by kernel_rfl) (by kernel_rfl) (by kernel_rfl) (fun _ _ _ h => h) (by kernel_rfl) (Or.inl ⟨by rfl, ?_⟩) (Or.inr hS) ?_
        rotate_left
        · (intro w _; go_simp; try with_reducible rfl)
        try simp only [List.getElem_toArray, List.getElem_cons_succ, List.getElem_cons_zero, Act.put, List.setIfInBounds_toArray, List.set_cons_zero, List.set_cons_succ]
        refine wpAnyU_pure (i := 4) (v := ?_) rfl (by kernel_rfl) (by kernel_rfl) (by kernel_rfl) (fun _ _ _ h => h) (by kernel_rfl) (Or.inl ⟨by rfl, ?_⟩) (Or.inr hS) ?_
        rotate_left
        · (intro w _; go_simp; try with_reducible rfl)
        try simp only [List.getElem_toArray, List.getElem_cons_succ, List.getElem_cons_zero, Act.put, List.setIfInBounds_toArray, List.set_cons_zero, List.set_cons_succ]
        refine wpAnyU_take (i := 5) (v := ?_) rfl (by kernel_rfl) (by kernel_rfl) (by kernel_rfl) (fun _ _ _ h => h) (by kernel_rfl) (Or.inl ⟨by rfl, ?_⟩) hS ?_
        rotate_left
        · (intro w hS; obtain ⟨s1, s2⟩ := hS; go_simp; try with_reducible rfl)
        try simp only [List.getElem_toArray, List.getElem_cons_succ, List.getElem_cons_zero, Act.put, List.setIfInBounds_toArray, List.set_cons_zero, List.set_cons_succ]
        refine wpAnyU_pure (i := 6) (v := ?_) rfl (by kernel_rfl) (by kernel_rfl) (by kernel_rfl) (fun _ _ _ h => h) (by kernel_rfl) (Or.inl ⟨by rfl, ?_⟩) (Or.inr hS) ?_
        rotate_left
        · (intro w _; go_simp; try with_reducible rfl)
        try simp only [List.getElem_toArray, List.getElem_cons_succ, List.getElem_cons_zero, Act.put, List.setIfInBounds_toArray, List.set_cons_zero, List.set_cons_succ]
        refine wpAnyU_pure (i := 7) (v := ?_) rfl (by kernel_rfl) (by kernel_rfl) (by kernel_rfl) (fun _ _ _ h => h) (by kernel_rfl) (Or.inl ⟨by rfl, ?_⟩) (Or.inr hS) ?_
        rotate_left
        · (intro w _; go_simp; try with_reducible rfl)
        try simp only [List.getElem_toArray, List.getElem_cons_succ, List.getElem_cons_zero, Act.put, List.setIfInBounds_toArray, List.set_cons_zero, List.set_cons_succ]
        refine wpAnyU_pure (i := 8) (v := ?_) rfl (by kernel_rfl) (by kernel_rfl) (by kernel_rfl) (fun _ _ _ h => h) (by kernel_rfl) (Or.inl ⟨by rfl, ?_⟩) (Or.inr hS) ?_
        rotate_left
        · (intro w _; go_simp; try with_reducible rfl)
        try simp only [List.getElem_toArray, List.getElem_cons_succ, List.getElem_cons_zero, Act.put, List.setIfInBounds_toArray, List.set_cons_zero, List.set_cons_succ]
        refine wpAnyU_pure (i := 9) (v := ?_) rfl (by kernel_rfl) (by kernel_rfl) (by kernel_rfl) (fun _ _ _ h => h) (by kernel_rfl) (Or.inl ⟨by rfl, ?_⟩) (Or.inr hS) ?_
        rotate_left
        · (intro w _; go_simp; try with_reducible rfl)
        try simp only [List.getElem_toArray, List.getElem_cons_succ, List.getElem_cons_zero, Act.put, List.setIfInBounds_toArray, List.set_cons_zero, List.set_cons_succ]
        refine wpAnyU_take (i := 10) (v := ?_) rfl (by kernel_rfl) (by kernel_rfl) (by kernel_rfl) (fun _ _ _ h => h) (by kernel_rfl) (Or.inl ⟨by rfl, ?_⟩) hS ?_
        rotate_left
        · (intro w hS; obtain ⟨s1, s2⟩ := hS; go_simp; try with_reducible rfl)
        try simp only [List.getElem_toArray, List.getElem_cons_succ, List.getElem_cons_zero, Act.put, List.setIfInBounds_toArray, List.set_cons_zero, List.set_cons_succ]
        refine wpAnyU_pure (i := 11) (v := ?_) rfl (by kernel_rfl) (by kernel_rfl) (by kernel_rfl) (fun _ _ _ h => h) (by kernel_rfl) (Or.inl ⟨by rfl, ?_⟩) (Or.inr hS) ?_
        rotate_left
        · (intro w _; go_simp; try with_reducible rfl)
        try simp only [List.getElem_toArray, List.getElem_cons_succ, List.getElem_cons_zero, Act.put, List.setIfInBounds_toArray, List.set_cons_zero, List.set_cons_succ]
        refine wpAnyU_pure (i := 12) (v := ?_) rfl (by kernel_rfl) (by kernel_rfl) (by kernel_rfl) (fun _ _ _ h => h) (by kernel_rfl) (Or.inl ⟨by rfl, ?_⟩) (Or.inr hS) ?_
        rotate_left
        · (intro w _; go_simp; try with_reducible rfl)
        try simp only [List.getElem_toArray, List.getElem_cons_succ, List.getElem_cons_zero, Act.put, List.setIfInBounds_toArray, List.set_cons_zero, List.set_cons_succ]
        refine wpAnyU_pure (i := 13) (v := ?_) rfl (by kernel_rfl) (by kernel_rfl) (by kernel_rfl) (fun _ _ _ h => h) (by kernel_rfl) (Or.inl ⟨by rfl, ?_⟩) (Or.inr hS) ?_
        rotate_left
        · (intro w _; go_simp; try with_reducible rfl)
        try simp only [List.getElem_toArray, List.getElem_cons_succ, List.getElem_cons_zero, Act.put, List.setIfInBounds_toArray, List.set_cons_zero, List.set_cons_succ]
        refine wpAnyU_one (i := 14) (by kernel_rfl) rfl (fun K hK => ?_)
        have e1 := (hd.box.cell (o + 1)).trans HC1b.out
        have e2 := hd.box.frozen (o + 1)
        go_simp
        refine hK _ _ (Or.inl (by rfl)) ?_
        clear hK K
        try simp only [Array.getInternal_eq_getElem, List.getElem_toArray, List.getElem_cons_succ, List.getElem_cons_zero, Act.put, List.setIfInBounds_toArray, List.set_cons_zero, List.set_cons_succ]
        refine wpAnyU_pure (i := 15) (v := ?_) rfl (by kernel_rfl) (by kernel_rfl) (by kernel_rfl) (fun _ _ _ h => h) (by kernel_rfl) (Or.inl ⟨by rfl, ?_⟩) (Or.inl (by rfl)) ?_
        rotate_left
        · (intro w _; go_simp; try with_reducible rfl)
        try simp only [List.getElem_toArray, List.getElem_cons_succ, List.getElem_cons_zero, Act.put, List.setIfInBounds_toArray, List.set_cons_zero, List.set_cons_succ]
        refine wpAnyU_pure (i := 16) (v := ?_) rfl (by kernel_rfl) (by kernel_rfl) (by kernel_rfl) (fun _ _ _ h => h) (by kernel_rfl) (Or.inl ⟨by rfl, ?_⟩) (Or.inl (by rfl)) ?_
        rotate_left
        · (intro w _; go_simp; try with_reducible rfl)
        try simp only [List.getElem_toArray, List.getElem_cons_succ, List.getElem_cons_zero, Act.put, List.setIfInBounds_toArray, List.set_cons_zero, List.set_cons_succ]
        refine wpAnyU_one (i := 17) (by kernel_rfl) rfl (fun K hK => ?_)
        replace hd := hd.setG (o + 1) (.slice (some ⟨gn, 0, none⟩) 0 kc)
        have e3 := (hd.box.cell (o + 2)).trans (show _ = some (Value.slice none 0 0) by rw [Array.getElem?_setIfInBounds_ne (by omega)]; exact HC2b.out)
        have e4 := hd.box.frozen (o + 2)
        clear e1 e2
        generalize hWW : W1.setCell ⟨g, o + 1, none⟩ (.slice (some ⟨gn, 0, none⟩) 0 kc) = W3 at hd e3 e4 ⊢
        clear hWW
        go_simp
        refine hK _ _ (Or.inl (by rfl)) ?_
        clear hK K
        try simp only [Array.getInternal_eq_getElem, List.getElem_toArray, List.getElem_cons_succ, List.getElem_cons_zero, Act.put, List.setIfInBounds_toArray, List.set_cons_zero, List.set_cons_succ]
        refine wpAnyU_done (by kernel_rfl) ?_ _
        replace hd := (hd.setG (o + 2) (.slice none 0 0)).cut
        clear e3 e4
        go_wp2_with fail
        first | (refine bodyPost_ret (results_none (by rfl) _ _ _) (by rfl) ?_) | (refine bodyPost_end (results_none (by rfl) _ _ _) (by rfl) ?_)
        exact ⟨rfl, some ⟨ga, 0, none⟩, n, n, _, HFIN.out.1, HFIN.out.2, by rw [HCL.out]; exact hd⟩
      · skip
        refine wp_region_U (S := fun w' => w'.cell? ⟨g, o + 1, none⟩ = some (.slice (some ⟨gn, 0, none⟩) k kc) ∧ w'.cell? ⟨g, o + 2, none⟩ = some (.slice (some ⟨gv, 0, none⟩) m vc)) (t := 14) (by kernel_rfl) ?_
        generalize ((W.alloc (.cells (Array.replicate n (Value.int .i64 0)) 3)).setCell ⟨g, o, none⟩ (.slice (some ⟨ga, 0, none⟩) n n)).drew = W1 at hd hS ⊢
        refine wpAnyU_pure (i := 0) (v := ?_) rfl (by kernel_rfl) (by kernel_rfl) (by kernel_rfl) (fun _ _ _ h => h) (by kernel_rfl) (Or.inl ⟨by rfl, ?_⟩) (Or.inr hS) ?_
        rotate_left
        · (intro w _; go_simp; try with_reducible rfl)
        try simp only [List.getElem_toArray, List.getElem_cons_zero, Act.put, List.setIfInBounds_toArray, List.set_cons_zero, List.set_cons_succ]
        refine wpAnyU_pure (i := 1) (v := ?_) rfl (by kernel_rfl) (by kernel_rfl) (by kernel_rfl) (fun _ _ _ h => h) (by kernel_rfl) (Or.inl ⟨by rfl, ?_⟩) (Or.inr hS) ?_
        rotate_left
        · (intro w _; go_simp; try with_reducible rfl)
        try simp only [List.getElem_toArray, List.getElem_cons_succ, List.getElem_cons_zero, Act.put, List.setIfInBounds_toArray, List.set_cons_zero, List.set_cons_succ]
        refine wpAnyU_pure (i := 2) (v := ?_) rfl (by kernel_rfl) (by kernel_rfl) (by kernel_rfl) (fun _ _ _ h => h) (by kernel_rfl) (Or.inl ⟨by rfl, ?_⟩) (Or.inr hS) ?_
        rotate_left
        · (intro w _; go_simp; try with_reducible rfl)
        try simp only [List.getElem_toArray, List.getElem_cons_succ, List.getElem_cons_zero, Act.put, List.setIfInBounds_toArray, List.set_cons_zero, List.set_cons_succ]
        refine wpAnyU_pure (i := 3) (v := ?_) rfl (by kernel_rfl) (by kernel_rfl) (by kernel_rfl) (fun _ _ _ h => h) (by kernel_rfl) (Or.inl ⟨by rfl, ?_⟩) (Or.inr hS) ?_
        rotate_left
        · (intro w _; go_simp; try with_reducible rfl)
        try simp only [List.getElem_toArray, List.getElem_cons_succ, List.getElem_cons_zero, Act.put, List.setIfInBounds_toArray, List.set_cons_zero, List.set_cons_succ]
        refine wpAnyU_pure (i := 4) (v := ?_) rfl (by kernel_rfl) (by kernel_rfl) (by kernel_rfl) (fun _ _ _ h => h) (by kernel_rfl) (Or.inl ⟨by rfl, ?_⟩) (Or.inr hS) ?_
        rotate_left
        · (intro w _; go_simp; try with_reducible rfl)
        try simp only [List.getElem_toArray, List.getElem_cons_succ, List.getElem_cons_zero, Act.put, List.setIfInBounds_toArray, List.set_cons_zero, List.set_cons_succ]
        refine wpAnyU_take (i := 5) (v := ?_) rfl (by kernel_rfl) (by kernel_rfl) (by kernel_rfl) (fun _ _ _ h => h) (by kernel_rfl) (Or.inl ⟨by rfl, ?_⟩) hS ?_
        rotate_left
        · (intro w hS; obtain ⟨s1, s2⟩ := hS; go_simp; try with_reducible rfl)
        try simp only [List.getElem_toArray, List.getElem_cons_succ, List.getElem_cons_zero, Act.put, List.setIfInBounds_toArray, List.set_cons_zero, List.set_cons_succ]
        refine wpAnyU_pure (i := 6) (v := ?_) rfl (by kernel_rfl) (by kernel_rfl) (by kernel_rfl) (fun _ _ _ h => h) (by kernel_rfl) (Or.inl ⟨by rfl, ?_⟩) (Or.inr hS) ?_
        rotate_left
        · (intro w _; go_simp; try with_reducible rfl)
        try simp only [List.getElem_toArray, List.getElem_cons_succ, List.getElem_cons_zero, Act.put, List.setIfInBounds_toArray, List.set_cons_zero, List.set_cons_succ]
        refine wpAnyU_pure (i := 7) (v := ?_) rfl (by kernel_rfl) (by kernel_rfl) (by kernel_rfl) (fun _ _ _ h => h) (by kernel_rfl) (Or.inl ⟨by rfl, ?_⟩) (Or.inr hS) ?_
        rotate_left
        · (intro w _; go_simp; try with_reducible rfl)
        try simp only [List.getElem_toArray, List.getElem_cons_succ, List.getElem_cons_zero, Act.put, List.setIfInBounds_toArray, List.set_cons_zero, List.set_cons_succ]
        refine wpAnyU_pure (i := 8) (v := ?_) rfl (by kernel_rfl) (by kernel_rfl) (by kernel_rfl) (fun _ _ _ h => h) (by kernel_rfl) (Or.inl ⟨by rfl, ?_⟩) (Or.inr hS) ?_
        rotate_left
        · (intro w _; go_simp; try with_reducible rfl)
        try simp only [List.getElem_toArray, List.getElem_cons_succ, List.getElem_cons_zero, Act.put, List.setIfInBounds_toArray, List.set_cons_zero, List.set_cons_succ]
        refine wpAnyU_pure (i := 9) (v := ?_) rfl (by kernel_rfl) (by kernel_rfl) (by kernel_rfl) (fun _ _ _ h => h) (by kernel_rfl) (Or.inl ⟨by rfl, ?_⟩) (Or.inr hS) ?_
        rotate_left
        · (intro w _; go_simp; try with_reducible rfl)
        try simp only [List.getElem_toArray, List.getElem_cons_succ, List.getElem_cons_zero, Act.put, List.setIfInBounds_toArray, List.set_cons_zero, List.set_cons_succ]
        refine wpAnyU_take (i := 10) (v := ?_) rfl (by kernel_rfl) (by kernel_rfl) (by kernel_rfl) (fun _ _ _ h => h) (by kernel_rfl) (Or.inl ⟨by rfl, ?_⟩) hS ?_
        rotate_left
        · (intro w hS; obtain ⟨s1, s2⟩ := hS; go_simp; try with_reducible rfl)
        try simp only [List.getElem_toArray, List.getElem_cons_succ, List.getElem_cons_zero, Act.put, List.setIfInBounds_toArray, List.set_cons_zero, List.set_cons_succ]
        refine wpAnyU_pure (i := 11) (v := ?_) rfl (by kernel_rfl) (by kernel_rfl) (by kernel_rfl) (fun _ _ _ h => h) (by kernel_rfl) (Or.inl ⟨by rfl, ?_⟩) (Or.inr hS) ?_
        rotate_left
        · (intro w _; go_simp; try with_reducible rfl)
        try simp only [List.getElem_toArray, List.getElem_cons_succ, List.getElem_cons_zero, Act.put, List.setIfInBounds_toArray, List.set_cons_zero, List.set_cons_succ]
        refine wpAnyU_pure (i := 12) (v := ?_) rfl (by kernel_rfl) (by kernel_rfl) (by kernel_rfl) (fun _ _ _ h => h) (by kernel_rfl) (Or.inl ⟨by rfl, ?_⟩) (Or.inr hS) ?_
        rotate_left
        · (intro w _; go_simp; try with_reducible rfl)
        try simp only [List.getElem_toArray, List.getElem_cons_succ, List.getElem_cons_zero, Act.put, List.setIfInBounds_toArray, List.set_cons_zero, List.set_cons_succ]
        refine wpAnyU_pure (i := 13) (v := ?_) rfl (by kernel_rfl) (by kernel_rfl) (by kernel_rfl) (fun _ _ _ h => h) (by kernel_rfl) (Or.inl ⟨by rfl, ?_⟩) (Or.inr hS) ?_
        rotate_left
        · (intro w _; go_simp; try with_reducible rfl)
        try simp only [List.getElem_toArray, List.getElem_cons_succ, List.getElem_cons_zero, Act.put, List.setIfInBounds_toArray, List.set_cons_zero, List.set_cons_succ]
        refine wpAnyU_one (i := 14) (by kernel_rfl) rfl (fun K hK => ?_)
        have e1 := (hd.box.cell (o + 1)).trans HC1b.out
        have e2 := hd.box.frozen (o + 1)
        go_simp
        refine hK _ _ (Or.inl (by rfl)) ?_
        clear hK K
        try simp only [Array.getInternal_eq_getElem, List.getElem_toArray, List.getElem_cons_succ, List.getElem_cons_zero, Act.put, List.setIfInBounds_toArray, List.set_cons_zero, List.set_cons_succ]
        refine wpAnyU_pure (i := 15) (v := ?_) rfl (by kernel_rfl) (by kernel_rfl) (by kernel_rfl) (fun _ _ _ h => h) (by kernel_rfl) (Or.inl ⟨by rfl, ?_⟩) (Or.inl (by rfl)) ?_
        rotate_left
        · (intro w _; go_simp; try with_reducible rfl)
        try simp only [List.getElem_toArray, List.getElem_cons_succ, List.getElem_cons_zero, Act.put, List.setIfInBounds_toArray, List.set_cons_zero, List.set_cons_succ]
        refine wpAnyU_pure (i := 16) (v := ?_) rfl (by kernel_rfl) (by kernel_rfl) (by kernel_rfl) (fun _ _ _ h => h) (by kernel_rfl) (Or.inl ⟨by rfl, ?_⟩) (Or.inl (by rfl)) ?_
        rotate_left
        · (intro w _; go_simp; try with_reducible rfl)
        try simp only [List.getElem_toArray, List.getElem_cons_succ, List.getElem_cons_zero, Act.put, List.setIfInBounds_toArray, List.set_cons_zero, List.set_cons_succ]
        refine wpAnyU_one (i := 17) (by kernel_rfl) rfl (fun K hK => ?_)
        replace hd := hd.setG (o + 1) (.slice (some ⟨gn, 0, none⟩) 0 kc)
        have e3 := (hd.box.cell (o + 2)).trans (show _ = some (Value.slice (some ⟨gv, 0, none⟩) m vc) by rw [Array.getElem?_setIfInBounds_ne (by omega)]; exact HC2b.out)
        have e4 := hd.box.frozen (o + 2)
        clear e1 e2
        generalize hWW : W1.setCell ⟨g, o + 1, none⟩ (.slice (some ⟨gn, 0, none⟩) 0 kc) = W3 at hd e3 e4 ⊢
        clear hWW
        go_simp
        refine hK _ _ (Or.inl (by rfl)) ?_
        clear hK K
        try simp only [Array.getInternal_eq_getElem, List.getElem_toArray, List.getElem_cons_succ, List.getElem_cons_zero, Act.put, List.setIfInBounds_toArray, List.set_cons_zero, List.set_cons_succ]
        refine wpAnyU_done (by kernel_rfl) ?_ _
        replace hd := (hd.setG (o + 2) (.slice (some ⟨gv, 0, none⟩) 0 vc)).cut
        clear e3 e4
        go_wp2_with fail
        first | (refine bodyPost_ret (results_none (by rfl) _ _ _) (by rfl) ?_) | (refine bodyPost_end (results_none (by rfl) _ _ _) (by rfl) ?_)
        exact ⟨rfl, some ⟨ga, 0, none⟩, n, n, _, HFIN.out.1, HFIN.out.2, by rw [HCL.out]; exact hd⟩
  · have e1 : decide ((na : Int) < (n : Int)) = false := decide_eq_false (by omega)
    have i1 : ¬ (na : Int) < (n : Int) := by omega
    have hd := hM.drew
    have HC1b := HC1
    have HC2b := HC2
    have hS := hd.two c1 c2
    have HNN : Hid (n ≤ na) := Lib.hid (by omega)
    have HSZ : Hid (cells.setIfInBounds o (.slice A na ca) = cells) := Lib.hid (by
      apply Array.ext'
      obtain ⟨ho, he⟩ := Array.getElem?_eq_some_iff.1 c0
      simp only [Array.toList_setIfInBounds]
      rw [← he, ← Array.getElem_toList]
      exact List.set_getElem_self (by simpa using ho))
    clear c0 c1 c2 hn hb hM hlt
    go_enter Tryd.func24, Tryd.ntmps24
    go_upto_region 2 with fail
    clear d0 e1 i1
    rcases hNf with ⟨rfl, rfl, rfl⟩ | ⟨gn, rfl, hkk⟩
    · rcases hVf with ⟨rfl, rfl, rfl⟩ | ⟨gv, rfl, hmm⟩
      · skip
        refine wp_region_U (S := fun w' => w'.cell? ⟨g, o + 1, none⟩ = some (.slice none 0 0) ∧ w'.cell? ⟨g, o + 2, none⟩ = some (.slice none 0 0)) (t := 14) (by kernel_rfl) ?_
        generalize W.drew = W1 at hd hS ⊢
        refine wpAnyU_pure (i := 0) (v := ?_) rfl (by kernel_rfl) (by kernel_rfl) (by kernel_rfl) (fun _ _ _ h => h) (by kernel_rfl) (Or.inl ⟨by rfl, ?_⟩) (Or.inr hS) ?_
        rotate_left
        · (intro w _; go_simp; try with_reducible rfl)
        try simp only [List.getElem_toArray, List.getElem_cons_zero, Act.put, List.setIfInBounds_toArray, List.set_cons_zero, List.set_cons_succ]
        refine wpAnyU_pure (i := 1) (v := ?_) rfl (by kernel_rfl) (by kernel_rfl) (by kernel_rfl) (fun _ _ _ h => h) (by kernel_rfl) (Or.inl ⟨by rfl, ?_⟩) (Or.inr hS) ?_
        rotate_left
        · (intro w _; go_simp; try with_reducible rfl)
        try simp only [List.getElem_toArray, List.getElem_cons_succ, List.getElem_cons_zero, Act.put, List.setIfInBounds_toArray, List.set_cons_zero, List.set_cons_succ]
        refine wpAnyU_pure (i := 2) (v := ?_) rfl (by kernel_rfl) (by kernel_rfl) (by kernel_rfl) (fun _ _ _ h => h) (by kernel_rfl) (Or.inl ⟨by rfl, ?_⟩) (Or.inr hS) ?_
        rotate_left
        · (intro w _; go_simp; try with_reducible rfl)
        try simp only [List.getElem_toArray, List.getElem_cons_succ, List.getElem_cons_zero, Act.put, List.setIfInBounds_toArray, List.set_cons_zero, List.set_cons_succ]
        refine wpAnyU_pure (i := 3) (v := ?_) rfl (by kernel_rfl) (by kernel_rfl) (by kernel_rfl) (fun _ _ _ h => h) (by kernel_rfl) (Or.inl ⟨by rfl, ?_⟩) (Or.inr hS) ?_
        rotate_left
        · (intro w _; go_simp; try with_reducible rfl)
        try simp only [List.getElem_toArray, List.getElem_cons_succ, List.getElem_cons_zero, Act.put, List.setIfInBounds_toArray, List.set_cons_zero, List.set_cons_succ]
        refine wpAnyU_pure (i := 4) (v := ?_) rfl (by kernel_rfl) (by kernel_rfl) (by kernel_rfl) (fun _ _ _ h => h) (by kernel_rfl) (Or.inl ⟨by rfl, ?_⟩) (Or.inr hS) ?_
        rotate_left
        · (intro w _; go_simp; try with_reducible rfl)
        try simp only [List.getElem_toArray, List.getElem_cons_succ, List.getElem_cons_zero, Act.put, List.setIfInBounds_toArray, List.set_cons_zero, List.set_cons_succ]
        refine wpAnyU_take (i := 5) (v := ?_) rfl (by kernel_rfl) (by kernel_rfl) (by kernel_rfl) (fun _ _ _ h => h) (by kernel_rfl) (Or.inl ⟨by rfl, ?_⟩) hS ?_
        rotate_left
        · (intro w hS; obtain ⟨s1, s2⟩ := hS; go_simp; try with_reducible rfl)
        try simp only [List.getElem_toArray, List.getElem_cons_succ, List.getElem_cons_zero, Act.put, List.setIfInBounds_toArray, List.set_cons_zero, List.set_cons_succ]
        refine wpAnyU_pure (i := 6) (v := ?_) rfl (by kernel_rfl) (by kernel_rfl) (by kernel_rfl) (fun _ _ _ h => h) (by kernel_rfl) (Or.inl ⟨by rfl, ?_⟩) (Or.inr hS) ?_
        rotate_left
        · (intro w _; go_simp; try with_reducible rfl)
        try simp only [List.getElem_toArray, List.getElem_cons_succ, List.getElem_cons_zero, Act.put, List.setIfInBounds_toArray, List.set_cons_zero, List.set_cons_succ]
        refine wpAnyU_pure (i := 7) (v := ?_) rfl (by kernel_rfl) (by kernel_rfl) (by kernel_rfl) (fun _ _ _ h => h) (by kernel_rfl) (Or.inl ⟨by rfl, ?_⟩) (Or.inr hS) ?_
        rotate_left
        · (intro w _; go_simp; try with_reducible rfl)
        try simp only [List.getElem_toArray, List.getElem_cons_succ, List.getElem_cons_zero, Act.put, List.setIfInBounds_toArray, List.set_cons_zero, List.set_cons_succ]
        refine wpAnyU_pure (i := 8) (v := ?_) rfl (by kernel_rfl) (by kernel_rfl) (by kernel_rfl) (fun _ _ _ h => h) (by kernel_rfl) (Or.inl ⟨by rfl, ?_⟩) (Or.inr hS) ?_
        rotate_left
        · (intro w _; go_simp; try with_reducible rfl)
        try simp only [List.getElem_toArray, List.getElem_cons_succ, List.getElem_cons_zero, Act.put, List.setIfInBounds_toArray, List.set_cons_zero, List.set_cons_succ]
        refine wpAnyU_pure (i := 9) (v := ?_) rfl (by kernel_rfl) (by kernel_rfl) (by kernel_rfl) (fun _ _ _ h => h) (by kernel_rfl) (Or.inl ⟨by rfl, ?_⟩) (Or.inr hS) ?_
        rotate_left
        · (intro w _; go_simp; try with_reducible rfl)
        try simp only [List.getElem_toArray, List.getElem_cons_succ, List.getElem_cons_zero, Act.put, List.setIfInBounds_toArray, List.set_cons_zero, List.set_cons_succ]
        refine wpAnyU_take (i := 10) (v := ?_) rfl (by kernel_rfl) (by kernel_rfl) (by kernel_rfl) (fun _ _ _ h => h) (by kernel_rfl) (Or.inl ⟨by rfl, ?_⟩) hS ?_
        rotate_left
        · (intro w hS; obtain ⟨s1, s2⟩ := hS; go_simp; try with_reducible rfl)
        try simp only [List.getElem_toArray, List.getElem_cons_succ, List.getElem_cons_zero, Act.put, List.setIfInBounds_toArray, List.set_cons_zero, List.set_cons_succ]
        refine wpAnyU_pure (i := 11) (v := ?_) rfl (by kernel_rfl) (by kernel_rfl) (by kernel_rfl) (fun _ _ _ h => h) (by kernel_rfl) (Or.inl ⟨by rfl, ?_⟩) (Or.inr hS) ?_
        rotate_left
        · (intro w _; go_simp; try with_reducible rfl)
        try simp only [List.getElem_toArray, List.getElem_cons_succ, List.getElem_cons_zero, Act.put, List.setIfInBounds_toArray, List.set_cons_zero, List.set_cons_succ]
        refine wpAnyU_pure (i := 12) (v := ?_) rfl (by kernel_rfl) (by kernel_rfl) (by kernel_rfl) (fun _ _ _ h => h) (by kernel_rfl) (Or.inl ⟨by rfl, ?_⟩) (Or.inr hS) ?_
        rotate_left
        · (intro w _; go_simp; try with_reducible rfl)
        try simp only [List.getElem_toArray, List.getElem_cons_succ, List.getElem_cons_zero, Act.put, List.setIfInBounds_toArray, List.set_cons_zero, List.set_cons_succ]
        refine wpAnyU_pure (i := 13) (v := ?_) rfl (by kernel_rfl) (by kernel_rfl) (by kernel_rfl) (fun _ _ _ h => h) (by kernel_rfl) (Or.inl ⟨by rfl, ?_⟩) (Or.inr hS) ?_
        rotate_left
        · (intro w _; go_simp; try with_reducible rfl)
        try simp only [List.getElem_toArray, List.getElem_cons_succ, List.getElem_cons_zero, Act.put, List.setIfInBounds_toArray, List.set_cons_zero, List.set_cons_succ]
        refine wpAnyU_one (i := 14) (by kernel_rfl) rfl (fun K hK => ?_)
        have e1 := (hd.box.cell (o + 1)).trans HC1b.out
        have e2 := hd.box.frozen (o + 1)
        go_simp
        refine hK _ _ (Or.inl (by rfl)) ?_
        clear hK K
        try simp only [Array.getInternal_eq_getElem, List.getElem_toArray, List.getElem_cons_succ, List.getElem_cons_zero, Act.put, List.setIfInBounds_toArray, List.set_cons_zero, List.set_cons_succ]
        refine wpAnyU_pure (i := 15) (v := ?_) rfl (by kernel_rfl) (by kernel_rfl) (by kernel_rfl) (fun _ _ _ h => h) (by kernel_rfl) (Or.inl ⟨by rfl, ?_⟩) (Or.inl (by rfl)) ?_
        rotate_left
        · (intro w _; go_simp; try with_reducible rfl)
        try simp only [List.getElem_toArray, List.getElem_cons_succ, List.getElem_cons_zero, Act.put, List.setIfInBounds_toArray, List.set_cons_zero, List.set_cons_succ]
        refine wpAnyU_pure (i := 16) (v := ?_) rfl (by kernel_rfl) (by kernel_rfl) (by kernel_rfl) (fun _ _ _ h => h) (by kernel_rfl) (Or.inl ⟨by rfl, ?_⟩) (Or.inl (by rfl)) ?_
        rotate_left
        · (intro w _; go_simp; try with_reducible rfl)
        try simp only [List.getElem_toArray, List.getElem_cons_succ, List.getElem_cons_zero, Act.put, List.setIfInBounds_toArray, List.set_cons_zero, List.set_cons_succ]
        refine wpAnyU_one (i := 17) (by kernel_rfl) rfl (fun K hK => ?_)
        replace hd := hd.setG (o + 1) (.slice none 0 0)
        have e3 := (hd.box.cell (o + 2)).trans (show _ = some (Value.slice none 0 0) by rw [Array.getElem?_setIfInBounds_ne (by omega)]; exact HC2b.out)
        have e4 := hd.box.frozen (o + 2)
        clear e1 e2
        generalize hWW : W1.setCell ⟨g, o + 1, none⟩ (.slice none 0 0) = W3 at hd e3 e4 ⊢
        clear hWW
        go_simp
        refine hK _ _ (Or.inl (by rfl)) ?_
        clear hK K
        try simp only [Array.getInternal_eq_getElem, List.getElem_toArray, List.getElem_cons_succ, List.getElem_cons_zero, Act.put, List.setIfInBounds_toArray, List.set_cons_zero, List.set_cons_succ]
        refine wpAnyU_done (by kernel_rfl) ?_ _
        replace hd := (hd.setG (o + 2) (.slice none 0 0)).cut
        clear e3 e4
        go_wp2_with fail
        first | (refine bodyPost_ret (results_none (by rfl) _ _ _) (by rfl) ?_) | (refine bodyPost_end (results_none (by rfl) _ _ _) (by rfl) ?_)
        exact ⟨rfl, A, na, ca, ats, HNN.out, .inl rfl, by rw [HSZ.out]; exact hd⟩
      · skip
        refine wp_region_U (S := fun w' => w'.cell? ⟨g, o + 1, none⟩ = some (.slice none 0 0) ∧ w'.cell? ⟨g, o + 2, none⟩ = some (.slice (some ⟨gv, 0, none⟩) m vc)) (t := 14) (by kernel_rfl) ?_
        generalize W.drew = W1 at hd hS ⊢
        refine wpAnyU_pure (i := 0) (v := ?_) rfl (by kernel_rfl) (by kernel_rfl) (by kernel_rfl) (fun _ _ _ h => h) (by kernel_rfl) (Or.inl ⟨by rfl, ?_⟩) (Or.inr hS) ?_
        rotate_left
        · (intro w _; go_simp; try with_reducible rfl)
        try simp only [List.getElem_toArray, List.getElem_cons_zero, Act.put, List.setIfInBounds_toArray, List.set_cons_zero, List.set_cons_succ]
        refine wpAnyU_pure (i := 1) (v := ?_) rfl (by kernel_rfl) (by kernel_rfl) (by kernel_rfl) (fun _ _ _ h => h) (by kernel_rfl) (Or.inl ⟨by rfl, ?_⟩) (Or.inr hS) ?_
        rotate_left
        · (intro w _; go_simp; try with_reducible rfl)
        try simp only [List.getElem_toArray, List.getElem_cons_succ, List.getElem_cons_zero, Act.put, List.setIfInBounds_toArray, List.set_cons_zero, List.set_cons_succ]
        refine wpAnyU_pure (i := 2) (v := ?_) rfl (by kernel_rfl) (by kernel_rfl) (by kernel_rfl) (fun _ _ _ h => h) (by kernel_rfl) (Or.inl ⟨by rfl, ?_⟩) (Or.inr hS) ?_
        rotate_left
        · (intro w _; go_simp; try with_reducible rfl)
        try simp only [List.getElem_toArray, List.getElem_cons_succ, List.getElem_cons_zero, Act.put, List.setIfInBounds_toArray, List.set_cons_zero, List.set_cons_succ]
        refine wpAnyU_pure (i := 3) (v := ?_) rfl (by kernel_rfl) (by kernel_rfl) (by kernel_rfl) (fun _ _ _ h => h) (by kernel_rfl) (Or.inl ⟨by rfl, ?_⟩) (Or.inr hS) ?_
        rotate_left
        · (intro w _; go_simp; try with_reducible rfl)
        try simp only [List.getElem_toArray, List.getElem_cons_succ, List.getElem_cons_zero, Act.put, List.setIfInBounds_toArray, List.set_cons_zero, List.set_cons_succ]
        refine wpAnyU_pure (i := 4) (v := ?_) rfl (by kernel_rfl) (by kernel_rfl) (by kernel_rfl) (fun _ _ _ h => h) (by kernel_rfl) (Or.inl ⟨by rfl, ?_⟩) (Or.inr hS) ?_
        rotate_left
        · (intro w _; go_simp; try with_reducible rfl)
        try simp only [List.getElem_toArray, List.getElem_cons_succ, List.getElem_cons_zero, Act.put, List.setIfInBounds_toArray, List.set_cons_zero, List.set_cons_succ]
        refine wpAnyU_take (i := 5) (v := ?_) rfl (by kernel_rfl) (by kernel_rfl) (by kernel_rfl) (fun _ _ _ h => h) (by kernel_rfl) (Or.inl ⟨by rfl, ?_⟩) hS ?_
        rotate_left
        · (intro w hS; obtain ⟨s1, s2⟩ := hS; go_simp; try with_reducible rfl)
        try simp only [List.getElem_toArray, List.getElem_cons_succ, List.getElem_cons_zero, Act.put, List.setIfInBounds_toArray, List.set_cons_zero, List.set_cons_succ]
        refine wpAnyU_pure (i := 6) (v := ?_) rfl (by kernel_rfl) (by kernel_rfl) (by kernel_rfl) (fun _ _ _ h => h) (by kernel_rfl) (Or.inl ⟨by rfl, ?_⟩) (Or.inr hS) ?_
        rotate_left
        · (intro w _; go_simp; try with_reducible rfl)
        try simp only [List.getElem_toArray, List.getElem_cons_succ, List.getElem_cons_zero, Act.put, List.setIfInBounds_toArray, List.set_cons_zero, List.set_cons_succ]
        refine wpAnyU_pure (i := 7) (v := ?_) rfl (by kernel_rfl) (by kernel_rfl) (by kernel_rfl) (fun _ _ _ h => h) (by kernel_rfl) (Or.inl ⟨by rfl, ?_⟩) (Or.inr hS) ?_
        rotate_left
        · (intro w _; go_simp; try with_reducible rfl)
        try simp only [List.getElem_toArray, List.getElem_cons_succ, List.getElem_cons_zero, Act.put, List.setIfInBounds_toArray, List.set_cons_zero, List.set_cons_succ]
        refine wpAnyU_pure (i := 8) (v := ?_) rfl (by kernel_rfl) (by kernel_rfl) (by kernel_rfl) (fun _ _ _ h => h) (by kernel_rfl) (Or.inl ⟨by rfl, ?_⟩) (Or.inr hS) ?_
        rotate_left
        · (intro w _; go_simp; try with_reducible rfl)
        try simp only [List.getElem_toArray, List.getElem_cons_succ, List.getElem_cons_zero, Act.put, List.setIfInBounds_toArray, List.set_cons_zero, List.set_cons_succ]
        refine wpAnyU_pure (i := 9) (v := ?_) rfl (by kernel_rfl) (by kernel_rfl) (by kernel_rfl) (fun _ _ _ h => h) (by kernel_rfl) (Or.inl ⟨by rfl, ?_⟩) (Or.inr hS) ?_
        rotate_left
        · (intro w _; go_simp; try with_reducible rfl)
        try simp only [List.getElem_toArray, List.getElem_cons_succ, List.getElem_cons_zero, Act.put, List.setIfInBounds_toArray, List.set_cons_zero, List.set_cons_succ]
        refine wpAnyU_take (i := 10) (v := ?_) rfl (by kernel_rfl) (by kernel_rfl) (by kernel_rfl) (fun _ _ _ h => h) (by kernel_rfl) (Or.inl ⟨by rfl, ?_⟩) hS ?_
        rotate_left
        · (intro w hS; obtain ⟨s1, s2⟩ := hS; go_simp; try with_reducible rfl)
        try simp only [List.getElem_toArray, List.getElem_cons_succ, List.getElem_cons_zero, Act.put, List.setIfInBounds_toArray, List.set_cons_zero, List.set_cons_succ]
        refine wpAnyU_pure (i := 11) (v := ?_) rfl (by kernel_rfl) (by kernel_rfl) (by kernel_rfl) (fun _ _ _ h => h) (by kernel_rfl) (Or.inl ⟨by rfl, ?_⟩) (Or.inr hS) ?_
        rotate_left
        · (intro w _; go_simp; try with_reducible rfl)
        try simp only [List.getElem_toArray, List.getElem_cons_succ, List.getElem_cons_zero, Act.put, List.setIfInBounds_toArray, List.set_cons_zero, List.set_cons_succ]
        refine wpAnyU_pure (i := 12) (v := ?_) rfl (by kernel_rfl) (by kernel_rfl) (by kernel_rfl) (fun _ _ _ h => h) (by kernel_rfl) (Or.inl ⟨by rfl, ?_⟩) (Or.inr hS) ?_
        rotate_left
        · (intro w _; go_simp; try with_reducible rfl)
        try simp only [List.getElem_toArray, List.getElem_cons_succ, List.getElem_cons_zero, Act.put, List.setIfInBounds_toArray, List.set_cons_zero, List.set_cons_succ]
        refine wpAnyU_pure (i := 13) (v := ?_) rfl (by kernel_rfl) (by kernel_rfl) (by kernel_rfl) (fun _ _ _ h => h) (by kernel_rfl) (Or.inl ⟨by rfl, ?_⟩) (Or.inr hS) ?_
        rotate_left
        · (intro w _; go_simp; try with_reducible rfl)
        try simp only [List.getElem_toArray, List.getElem_cons_succ, List.getElem_cons_zero, Act.put, List.setIfInBounds_toArray, List.set_cons_zero, List.set_cons_succ]
        refine wpAnyU_one (i := 14) (by kernel_rfl) rfl (fun K hK => ?_)
        have e1 := (hd.box.cell (o + 1)).trans HC1b.out
        have e2 := hd.box.frozen (o + 1)
        go_simp
        refine hK _ _ (Or.inl (by rfl)) ?_
        clear hK K
        try simp only [Array.getInternal_eq_getElem, List.getElem_toArray, List.getElem_cons_succ, List.getElem_cons_zero, Act.put, List.setIfInBounds_toArray, List.set_cons_zero, List.set_cons_succ]
        refine wpAnyU_pure (i := 15) (v := ?_) rfl (by kernel_rfl) (by kernel_rfl) (by kernel_rfl) (fun _ _ _ h => h) (by kernel_rfl) (Or.inl ⟨by rfl, ?_⟩) (Or.inl (by rfl)) ?_
        rotate_left
        · (intro w _; go_simp; try with_reducible rfl)
        try simp only [List.getElem_toArray, List.getElem_cons_succ, List.getElem_cons_zero, Act.put, List.setIfInBounds_toArray, List.set_cons_zero, List.set_cons_succ]
        refine wpAnyU_pure (i := 16) (v := ?_) rfl (by kernel_rfl) (by kernel_rfl) (by kernel_rfl) (fun _ _ _ h => h) (by kernel_rfl) (Or.inl ⟨by rfl, ?_⟩) (Or.inl (by rfl)) ?_
        rotate_left
        · (intro w _; go_simp; try with_reducible rfl)
        try simp only [List.getElem_toArray, List.getElem_cons_succ, List.getElem_cons_zero, Act.put, List.setIfInBounds_toArray, List.set_cons_zero, List.set_cons_succ]
        refine wpAnyU_one (i := 17) (by kernel_rfl) rfl (fun K hK => ?_)
        replace hd := hd.setG (o + 1) (.slice none 0 0)
        have e3 := (hd.box.cell (o + 2)).trans (show _ = some (Value.slice (some ⟨gv, 0, none⟩) m vc) by rw [Array.getElem?_setIfInBounds_ne (by omega)]; exact HC2b.out)
        have e4 := hd.box.frozen (o + 2)
        clear e1 e2
        generalize hWW : W1.setCell ⟨g, o + 1, none⟩ (.slice none 0 0) = W3 at hd e3 e4 ⊢
        clear hWW
        go_simp
        refine hK _ _ (Or.inl (by rfl)) ?_
        clear hK K
        try simp only [Array.getInternal_eq_getElem, List.getElem_toArray, List.getElem_cons_succ, List.getElem_cons_zero, Act.put, List.setIfInBounds_toArray, List.set_cons_zero, List.set_cons_succ]
        refine wpAnyU_done (by kernel_rfl) ?_ _
        replace hd := (hd.setG (o + 2) (.slice (some ⟨gv, 0, none⟩) 0 vc)).cut
        clear e3 e4
        go_wp2_with fail
        first | (refine bodyPost_ret (results_none (by rfl) _ _ _) (by rfl) ?_) | (refine bodyPost_end (results_none (by rfl) _ _ _) (by rfl) ?_)
        exact ⟨rfl, A, na, ca, ats, HNN.out, .inl rfl, by rw [HSZ.out]; exact hd⟩
    · rcases hVf with ⟨rfl, rfl, rfl⟩ | ⟨gv, rfl, hmm⟩
      · skip
        refine wp_region_U (S := fun w' => w'.cell? ⟨g, o + 1, none⟩ = some (.slice (some ⟨gn, 0, none⟩) k kc) ∧ w'.cell? ⟨g, o + 2, none⟩ = some (.slice none 0 0)) (t := 14) (by kernel_rfl) ?_
        generalize W.drew = W1 at hd hS ⊢
        refine wpAnyU_pure (i := 0) (v := ?_) rfl (by kernel_rfl) (by kernel_rfl) (by kernel_rfl) (fun _ _ _ h => h) (by kernel_rfl) (Or.inl ⟨by rfl, ?_⟩) (Or.inr hS) ?_
        rotate_left
        · (intro w _; go_simp; try with_reducible rfl)
        try simp only [List.getElem_toArray, List.getElem_cons_zero, Act.put, List.setIfInBounds_toArray, List.set_cons_zero, List.set_cons_succ]
        refine wpAnyU_pure (i := 1) (v := ?_) rfl (by kernel_rfl) (by kernel_rfl) (by kernel_rfl) (fun _ _ _ h => h) (by kernel_rfl) (Or.inl ⟨by rfl, ?_⟩) (Or.inr hS) ?_
        rotate_left
        · (intro w _; go_simp; try with_reducible rfl)
        try simp only [List.getElem_toArray, List.getElem_cons_succ, List.getElem_cons_zero, Act.put, List.setIfInBounds_toArray, List.set_cons_zero, List.set_cons_succ]
        refine wpAnyU_pure (i := 2) (v := ?_) rfl (by kernel_rfl) (by kernel_rfl) (by kernel_rfl) (fun _ _ _ h => h) (by kernel_rfl) (Or.inl ⟨by rfl, ?_⟩) (Or.inr hS) ?_
        rotate_left
        · (intro w _; go_simp; try with_reducible rfl)
        try simp only [List.getElem_toArray, List.getElem_cons_succ, List.getElem_cons_zero, Act.put, List.setIfInBounds_toArray, List.set_cons_zero, List.set_cons_succ]
        refine wpAnyU_pure (i := 3) (v := ?_) rfl (by kernel_rfl) (by kernel_rfl) (by kernel_rfl) (fun _ _ _ h => h) (by kernel_rfl) (Or.inl ⟨by rfl, ?_⟩) (Or.inr hS) ?_
        rotate_left
        · (intro w _; go_simp; try with_reducible rfl)
        try simp only [List.getElem_toArray, List.getElem_cons_succ, List.getElem_cons_zero, Act.put, List.setIfInBounds_toArray, List.set_cons_zero, List.set_cons_succ]
        refine wpAnyU_pure (i := 4) (v := ?_) rfl (by kernel_rfl) (by kernel_rfl) (by kernel_rfl) (fun _ _ _ h => h) (by kernel_rfl) (Or.inl ⟨by rfl, ?_⟩) (Or.inr hS) ?_
        rotate_left
        · (intro w _; go_simp; try with_reducible rfl)
        try simp only [List.getElem_toArray, List.getElem_cons_succ, List.getElem_cons_zero, Act.put, List.setIfInBounds_toArray, List.set_cons_zero, List.set_cons_succ]
        refine wpAnyU_take (i := 5) (v := ?_) rfl (by kernel_rfl) (by kernel_rfl) (by kernel_rfl) (fun _ _ _ h => h) (by kernel_rfl) (Or.inl ⟨by rfl, ?_⟩) hS ?_
        rotate_left
        · (intro w hS; obtain ⟨s1, s2⟩ := hS; go_simp; try with_reducible rfl)
        try simp only [List.getElem_toArray, List.getElem_cons_succ, List.getElem_cons_zero, Act.put, List.setIfInBounds_toArray, List.set_cons_zero, List.set_cons_succ]
        refine wpAnyU_pure (i := 6) (v := ?_) rfl (by kernel_rfl) (by kernel_rfl) (by kernel_rfl) (fun _ _ _ h => h) (by kernel_rfl) (Or.inl ⟨by rfl, ?_⟩) (Or.inr hS) ?_
        rotate_left
        · (intro w _; go_simp; try with_reducible rfl)
        try simp only [List.getElem_toArray, List.getElem_cons_succ, List.getElem_cons_zero, Act.put, List.setIfInBounds_toArray, List.set_cons_zero, List.set_cons_succ]
        refine wpAnyU_pure (i := 7) (v := ?_) rfl (by kernel_rfl) (by kernel_rfl) (by kernel_rfl) (fun _ _ _ h => h) (by kernel_rfl) (Or.inl ⟨by rfl, ?_⟩) (Or.inr hS) ?_
        rotate_left
        · (intro w _; go_simp; try with_reducible rfl)
        try simp only [List.getElem_toArray, List.getElem_cons_succ, List.getElem_cons_zero, Act.put, List.setIfInBounds_toArray, List.set_cons_zero, List.set_cons_succ]
        refine wpAnyU_pure (i := 8) (v := ?_) rfl (by kernel_rfl) (by kernel_rfl) (by kernel_rfl) (fun _ _ _ h => h) (by kernel_rfl) (Or.inl ⟨by rfl, ?_⟩) (Or.inr hS) ?_
        rotate_left
        · (intro w _; go_simp; try with_reducible rfl)
        try simp only [List.getElem_toArray, List.getElem_cons_succ, List.getElem_cons_zero, Act.put, List.setIfInBounds_toArray, List.set_cons_zero, List.set_cons_succ]
        refine wpAnyU_pure (i := 9) (v := ?_) rfl (by kernel_rfl) (by kernel_rfl) (by kernel_rfl) (fun _ _ _ h => h) (by kernel_rfl) (Or.inl ⟨by rfl, ?_⟩) (Or.inr hS) ?_
        rotate_left
        · (intro w _; go_simp; try with_reducible rfl)
        try simp only [List.getElem_toArray, List.getElem_cons_succ, List.getElem_cons_zero, Act.put, List.setIfInBounds_toArray, List.set_cons_zero, List.set_cons_succ]
        refine wpAnyU_take (i := 10) (v := ?_) rfl (by kernel_rfl) (by kernel_rfl) (by kernel_rfl) (fun _ _ _ h => h) (by kernel_rfl) (Or.inl ⟨by rfl, ?_⟩) hS ?_
        rotate_left
        · (intro w hS; obtain ⟨s1, s2⟩ := hS; go_simp; try with_reducible rfl)
        try simp only [List.getElem_toArray, List.getElem_cons_succ, List.getElem_cons_zero, Act.put, List.setIfInBounds_toArray, List.set_cons_zero, List.set_cons_succ]
        refine wpAnyU_pure (i := 11) (v := ?_) rfl (by kernel_rfl) (by kernel_rfl) (by kernel_rfl) (fun _ _ _ h => h) (by kernel_rfl) (Or.inl ⟨by rfl, ?_⟩) (Or.inr hS) ?_
        rotate_left
        · (intro w _; go_simp; try with_reducible rfl)
        try simp only [List.getElem_toArray, List.getElem_cons_succ, List.getElem_cons_zero, Act.put, List.setIfInBounds_toArray, List.set_cons_zero, List.set_cons_succ]
        refine wpAnyU_pure (i := 12) (v := ?_) rfl (by kernel_rfl) (by kernel_rfl) (by kernel_rfl) (fun _ _ _ h => h) (by kernel_rfl) (Or.inl ⟨by rfl, ?_⟩) (Or.inr hS) ?_
        rotate_left
        · (intro w _; go_simp; try with_reducible rfl)
        try simp only [List.getElem_toArray, List.getElem_cons_succ, List.getElem_cons_zero, Act.put, List.setIfInBounds_toArray, List.set_cons_zero, List.set_cons_succ]
        refine wpAnyU_pure (i := 13) (v := ?_) rfl (by kernel_rfl) (by kernel_rfl) (by kernel_rfl) (fun _ _ _ h => h) (by kernel_rfl) (Or.inl ⟨by rfl, ?_⟩) (Or.inr hS) ?_
        rotate_left
        · (intro w _; go_simp; try with_reducible rfl)
        try simp only [List.getElem_toArray, List.getElem_cons_succ, List.getElem_cons_zero, Act.put, List.setIfInBounds_toArray, List.set_cons_zero, List.set_cons_succ]
        refine wpAnyU_one (i := 14) (by kernel_rfl) rfl (fun K hK => ?_)
        have e1 := (hd.box.cell (o + 1)).trans HC1b.out
        have e2 := hd.box.frozen (o + 1)
        go_simp
        refine hK _ _ (Or.inl (by rfl)) ?_
        clear hK K
        try simp only [Array.getInternal_eq_getElem, List.getElem_toArray, List.getElem_cons_succ, List.getElem_cons_zero, Act.put, List.setIfInBounds_toArray, List.set_cons_zero, List.set_cons_succ]
        refine wpAnyU_pure (i := 15) (v := ?_) rfl (by kernel_rfl) (by kernel_rfl) (by kernel_rfl) (fun _ _ _ h => h) (by kernel_rfl) (Or.inl ⟨by rfl, ?_⟩) (Or.inl (by rfl)) ?_
        rotate_left
        · (intro w _; go_simp; try with_reducible rfl)
        try simp only [List.getElem_toArray, List.getElem_cons_succ, List.getElem_cons_zero, Act.put, List.setIfInBounds_toArray, List.set_cons_zero, List.set_cons_succ]
        refine wpAnyU_pure (i := 16) (v := ?_) rfl (by kernel_rfl) (by kernel_rfl) (by kernel_rfl) (fun _ _ _ h => h) (by kernel_rfl) (Or.inl ⟨by rfl, ?_⟩) (Or.inl (by rfl)) ?_
        rotate_left
        · (intro w _; go_simp; try with_reducible rfl)
        try simp only [List.getElem_toArray, List.getElem_cons_succ, List.getElem_cons_zero, Act.put, List.setIfInBounds_toArray, List.set_cons_zero, List.set_cons_succ]
        refine wpAnyU_one (i := 17) (by kernel_rfl) rfl (fun K hK => ?_)
        replace hd := hd.setG (o + 1) (.slice (some ⟨gn, 0, none⟩) 0 kc)
        have e3 := (hd.box.cell (o + 2)).trans (show _ = some (Value.slice none 0 0) by rw [Array.getElem?_setIfInBounds_ne (by omega)]; exact HC2b.out)
        have e4 := hd.box.frozen (o + 2)
        clear e1 e2
        generalize hWW : W1.setCell ⟨g, o + 1, none⟩ (.slice (some ⟨gn, 0, none⟩) 0 kc) = W3 at hd e3 e4 ⊢
        clear hWW
        go_simp
        refine hK _ _ (Or.inl (by rfl)) ?_
        clear hK K
        try simp only [Array.getInternal_eq_getElem, List.getElem_toArray, List.getElem_cons_succ, List.getElem_cons_zero, Act.put, List.setIfInBounds_toArray, List.set_cons_zero, List.set_cons_succ]
        refine wpAnyU_done (by kernel_rfl) ?_ _
        replace hd := (hd.setG (o + 2) (.slice none 0 0)).cut
        clear e3 e4
        go_wp2_with fail
        first | (refine bodyPost_ret (results_none (by rfl) _ _ _) (by rfl) ?_) | (refine bodyPost_end (results_none (by rfl) _ _ _) (by rfl) ?_)
        exact ⟨rfl, A, na, ca, ats, HNN.out, .inl rfl, by rw [HSZ.out]; exact hd⟩
      · skip
        refine wp_region_U (S := fun w' => w'.cell? ⟨g, o + 1, none⟩ = some (.slice (some ⟨gn, 0, none⟩) k kc) ∧ w'.cell? ⟨g, o + 2, none⟩ = some (.slice (some ⟨gv, 0, none⟩) m vc)) (t := 14) (by kernel_rfl) ?_
        generalize W.drew = W1 at hd hS ⊢
        refine wpAnyU_pure (i := 0) (v := ?_) rfl (by kernel_rfl) (by kernel_rfl) (by kernel_rfl) (fun _ _ _ h => h) (by kernel_rfl) (Or.inl ⟨by rfl, ?_⟩) (Or.inr hS) ?_
        rotate_left
        · (intro w _; go_simp; try with_reducible rfl)
        try simp only [List.getElem_toArray, List.getElem_cons_zero, Act.put, List.setIfInBounds_toArray, List.set_cons_zero, List.set_cons_succ]
        refine wpAnyU_pure (i := 1) (v := ?_) rfl (by kernel_rfl) (by kernel_rfl) (by kernel_rfl) (fun _ _ _ h => h) (by kernel_rfl) (Or.inl ⟨by rfl, ?_⟩) (Or.inr hS) ?_
        rotate_left
        · (intro w _; go_simp; try with_reducible rfl)
        try simp only [List.getElem_toArray, List.getElem_cons_succ, List.getElem_cons_zero, Act.put, List.setIfInBounds_toArray, List.set_cons_zero, List.set_cons_succ]
        refine wpAnyU_pure (i := 2) (v := ?_) rfl (by kernel_rfl) (by kernel_rfl) (by kernel_rfl) (fun _ _ _ h => h) (by kernel_rfl) (Or.inl ⟨by rfl, ?_⟩) (Or.inr hS) ?_
        rotate_left
        · (intro w _; go_simp; try with_reducible rfl)
        try simp only [List.getElem_toArray, List.getElem_cons_succ, List.getElem_cons_zero, Act.put, List.setIfInBounds_toArray, List.set_cons_zero, List.set_cons_succ]
        refine wpAnyU_pure (i := 3) (v := ?_) rfl (by kernel_rfl) (by kernel_rfl) (by kernel_rfl) (fun _ _ _ h => h) (by kernel_rfl) (Or.inl ⟨by rfl, ?_⟩) (Or.inr hS) ?_
        rotate_left
        · (intro w _; go_simp; try with_reducible rfl)
        try simp only [List.getElem_toArray, List.getElem_cons_succ, List.getElem_cons_zero, Act.put, List.setIfInBounds_toArray, List.set_cons_zero, List.set_cons_succ]
        refine wpAnyU_pure (i := 4) (v := ?_) rfl (by kernel_rfl) (by kernel_rfl) (by kernel_rfl) (fun _ _ _ h => h) (by kernel_rfl) (Or.inl ⟨by rfl, ?_⟩) (Or.inr hS) ?_
        rotate_left
        · (intro w _; go_simp; try with_reducible rfl)
        try simp only [List.getElem_toArray, List.getElem_cons_succ, List.getElem_cons_zero, Act.put, List.setIfInBounds_toArray, List.set_cons_zero, List.set_cons_succ]
        refine wpAnyU_take (i := 5) (v := ?_) rfl (by kernel_rfl) (by kernel_rfl) (by kernel_rfl) (fun _ _ _ h => h) (by kernel_rfl) (Or.inl ⟨by rfl, ?_⟩) hS ?_
        rotate_left
        · (intro w hS; obtain ⟨s1, s2⟩ := hS; go_simp; try with_reducible rfl)
        try simp only [List.getElem_toArray, List.getElem_cons_succ, List.getElem_cons_zero, Act.put, List.setIfInBounds_toArray, List.set_cons_zero, List.set_cons_succ]
        refine wpAnyU_pure (i := 6) (v := ?_) rfl (by kernel_rfl) (by kernel_rfl) (by kernel_rfl) (fun _ _ _ h => h) (by kernel_rfl) (Or.inl ⟨by rfl, ?_⟩) (Or.inr hS) ?_
        rotate_left
        · (intro w _; go_simp; try with_reducible rfl)
        try simp only [List.getElem_toArray, List.getElem_cons_succ, List.getElem_cons_zero, Act.put, List.setIfInBounds_toArray, List.set_cons_zero, List.set_cons_succ]
        refine wpAnyU_pure (i := 7) (v := ?_) rfl (by kernel_rfl) (by kernel_rfl) (by kernel_rfl) (fun _ _ _ h => h) (by kernel_rfl) (Or.inl ⟨by rfl, ?_⟩) (Or.inr hS) ?_
        rotate_left
        · (intro w _; go_simp; try with_reducible rfl)
        try simp only [List.getElem_toArray, List.getElem_cons_succ, List.getElem_cons_zero, Act.put, List.setIfInBounds_toArray, List.set_cons_zero, List.set_cons_succ]
        refine wpAnyU_pure (i := 8) (v := ?_) rfl (by kernel_rfl) (by kernel_rfl) (by kernel_rfl) (fun _ _ _ h => h) (by kernel_rfl) (Or.inl ⟨by rfl, ?_⟩) (Or.inr hS) ?_
        rotate_left
        · (intro w _; go_simp; try with_reducible rfl)
        try simp only [List.getElem_toArray, List.getElem_cons_succ, List.getElem_cons_zero, Act.put, List.setIfInBounds_toArray, List.set_cons_zero, List.set_cons_succ]
        refine wpAnyU_pure (i := 9) (v := ?_) rfl (by kernel_rfl) (by kernel_rfl) (by kernel_rfl) (fun _ _ _ h => h) (by kernel_rfl) (Or.inl ⟨by rfl, ?_⟩) (Or.inr hS) ?_
        rotate_left
        · (intro w _; go_simp; try with_reducible rfl)
        try simp only [List.getElem_toArray, List.getElem_cons_succ, List.getElem_cons_zero, Act.put, List.setIfInBounds_toArray, List.set_cons_zero, List.set_cons_succ]
        refine wpAnyU_take (i := 10) (v := ?_) rfl (by kernel_rfl) (by kernel_rfl) (by kernel_rfl) (fun _ _ _ h => h) (by kernel_rfl) (Or.inl ⟨by rfl, ?_⟩) hS ?_
        rotate_left
        · (intro w hS; obtain ⟨s1, s2⟩ := hS; go_simp; try with_reducible rfl)
        try simp only [List.getElem_toArray, List.getElem_cons_succ, List.getElem_cons_zero, Act.put, List.setIfInBounds_toArray, List.set_cons_zero, List.set_cons_succ]
        refine wpAnyU_pure (i := 11) (v := ?_) rfl (by kernel_rfl) (by kernel_rfl) (by kernel_rfl) (fun _ _ _ h => h) (by kernel_rfl) (Or.inl ⟨by rfl, ?_⟩) (Or.inr hS) ?_
        rotate_left
        · (intro w _; go_simp; try with_reducible rfl)
        try simp only [List.getElem_toArray, List.getElem_cons_succ, List.getElem_cons_zero, Act.put, List.setIfInBounds_toArray, List.set_cons_zero, List.set_cons_succ]
        refine wpAnyU_pure (i := 12) (v := ?_) rfl (by kernel_rfl) (by kernel_rfl) (by kernel_rfl) (fun _ _ _ h => h) (by kernel_rfl) (Or.inl ⟨by rfl, ?_⟩) (Or.inr hS) ?_
        rotate_left
        · (intro w _; go_simp; try with_reducible rfl)
        try simp only [List.getElem_toArray, List.getElem_cons_succ, List.getElem_cons_zero, Act.put, List.setIfInBounds_toArray, List.set_cons_zero, List.set_cons_succ]
        refine wpAnyU_pure (i := 13) (v := ?_) rfl (by kernel_rfl) (by kernel_rfl) (by kernel_rfl) (fun _ _ _ h => h) (by kernel_rfl) (Or.inl ⟨by rfl, ?_⟩) (Or.inr hS) ?_
        rotate_left
        · (intro w _; go_simp; try with_reducible rfl)
        try simp only [List.getElem_toArray, List.getElem_cons_succ, List.getElem_cons_zero, Act.put, List.setIfInBounds_toArray, List.set_cons_zero, List.set_cons_succ]
        refine wpAnyU_one (i := 14) (by kernel_rfl) rfl (fun K hK => ?_)
        have e1 := (hd.box.cell (o + 1)).trans HC1b.out
        have e2 := hd.box.frozen (o + 1)
        go_simp
        refine hK _ _ (Or.inl (by rfl)) ?_
        clear hK K
        try simp only [Array.getInternal_eq_getElem, List.getElem_toArray, List.getElem_cons_succ, List.getElem_cons_zero, Act.put, List.setIfInBounds_toArray, List.set_cons_zero, List.set_cons_succ]
        refine wpAnyU_pure (i := 15) (v := ?_) rfl (by kernel_rfl) (by kernel_rfl) (by kernel_rfl) (fun _ _ _ h => h) (by kernel_rfl) (Or.inl ⟨by rfl, ?_⟩) (Or.inl (by rfl)) ?_
        rotate_left
        · (intro w _; go_simp; try with_reducible rfl)
        try simp only [List.getElem_toArray, List.getElem_cons_succ, List.getElem_cons_zero, Act.put, List.setIfInBounds_toArray, List.set_cons_zero, List.set_cons_succ]
        refine wpAnyU_pure (i := 16) (v := ?_) rfl (by kernel_rfl) (by kernel_rfl) (by kernel_rfl) (fun _ _ _ h => h) (by kernel_rfl) (Or.inl ⟨by rfl, ?_⟩) (Or.inl (by rfl)) ?_
        rotate_left
        · (intro w _; go_simp; try with_reducible rfl)
        try simp only [List.getElem_toArray, List.getElem_cons_succ, List.getElem_cons_zero, Act.put, List.setIfInBounds_toArray, List.set_cons_zero, List.set_cons_succ]
        refine wpAnyU_one (i := 17) (by kernel_rfl) rfl (fun K hK => ?_)
        replace hd := hd.setG (o + 1) (.slice (some ⟨gn, 0, none⟩) 0 kc)
        have e3 := (hd.box.cell (o + 2)).trans (show _ = some (Value.slice (some ⟨gv, 0, none⟩) m vc) by rw [Array.getElem?_setIfInBounds_ne (by omega)]; exact HC2b.out)
        have e4 := hd.box.frozen (o + 2)
        clear e1 e2
        generalize hWW : W1.setCell ⟨g, o + 1, none⟩ (.slice (some ⟨gn, 0, none⟩) 0 kc) = W3 at hd e3 e4 ⊢
        clear hWW
        go_simp
        refine hK _ _ (Or.inl (by rfl)) ?_
        clear hK K
        try simp only [Array.getInternal_eq_getElem, List.getElem_toArray, List.getElem_cons_succ, List.getElem_cons_zero, Act.put, List.setIfInBounds_toArray, List.set_cons_zero, List.set_cons_succ]
        refine wpAnyU_done (by kernel_rfl) ?_ _
        replace hd := (hd.setG (o + 2) (.slice (some ⟨gv, 0, none⟩) 0 vc)).cut
        clear e3 e4
        go_wp2_with fail
        first | (refine bodyPost_ret (results_none (by rfl) _ _ _) (by rfl) ?_) | (refine bodyPost_end (results_none (by rfl) _ _ _) (by rfl) ?_)
        exact ⟨rfl, A, na, ca, ats, HNN.out, .inl rfl, by rw [HSZ.out]; exact hd⟩
end Go.Proofs.YtbhcgjahlfpjoaaDoor
