/- Threads: slices.Clone and slices.Repeat of ints. -/
import Derived.Test.YtbhcgjahlfpjoaaDoorTm3
import Derived.Lib.Mul64
import Derived.Laws.Bits64b
import Derived.Laws.CopyOwn
import Derived.Deep.RegionLaw
import Derived.Deep.LoopGhost
namespace Go.Proofs.YtbhcgjahlfpjoaaDoor
open Go.RowKit

set_option maxRecDepth 20000 in
set_option maxHeartbeats 2000000 in
theorem cloneI_any {w : World} {A : Option Addr} {n c : Nat} {l : List Int} (hA : IlIn w A n c l) (hn : n ≤ 1000000) : Calls Tryd.prog 28 #[.slice A n c] w fun e w' =>
    ∃ B d, e = .returned (.slice B n d) ∧ w'.ownsRow w.heap.size 3 1 (.slice B n d) n (i64s l) ∧ Below w.heap.size w w' := by
  have q : ∀ (w : World) (a : Option Addr) (n c n' c' : Nat), (binOp .eql 35 (.slice a n c) (.slice none n' c')).run Tryd.prog w = .ok (.bool a.isNone) w := fun w a n c n' c' => Lib.run_eql_slice_nil w _ _ a n c n' c' Tryd.underlying35
  cases A with
  | none =>
    obtain rfl := hA.nil rfl
    obtain rfl := List.eq_nil_of_length_eq_zero hA.len
    clear hA hn
    go_enter Tryd.func28, Tryd.ntmps28
    go_wp2_with fail
    go_ret
    exact ⟨none, 0, rfl, World.ownsRow_nil _ _ _ _, Below.refl _ _⟩
  | some a =>
    have hmade := World.ownsRow_made (base := w.heap.size) (size := 1) (e := 3) w #[] 0 (Nat.le_refl _) (Nat.zero_le _) rfl
    have hab0 := fun k hk => (hmade.lt k hk).1
    have hba : Below w.heap.size w (w.alloc (.cells #[] 3)) := (Below.refl _ _).alloc (Nat.le_refl _) _
    have hR1 := (hA.below hba).rd
    have hn1 := hA.nil
    have hl1 : (i64s l).length = n * 1 := by rw [i64s_length, hA.len, Nat.mul_one]
    have h1e := i64s_one l
    have hmx : 0 + n ≤ maxLen := by unfold maxLen; omega
    have hbt : (0 + n) * 8 ≤ 140737488355328 := by omega
    clear hA
    go_enter Tryd.func28, Tryd.ntmps28
    go_wp2_with (at_builtin; refine wpList_app _ rfl _ _ 35 rfl w.heap.size 3 elIt _ _ _ rfl hmade 0 _ (some a) n c (i64s l) rfl hn1 hl1 hR1 h1e hmx hbt (by simp) ?_; intro v1 V1 hv1 hg1 _ _; obtain ⟨uA, uc, rfl, _, _⟩ := own_form hv1)
    simp only [Nat.zero_add, List.nil_append] at hv1
    have hb : Below w.heap.size w V1 := hba.grown hg1 (by simp) hab0
    go_ret
    exact ⟨uA, uc, by simp, hv1, hb⟩

theorem maskN (a : Nat) (ha : a < 18446744073709551616) : bits .and .u64 (a : Int) 4294967295 = ((a % 4294967296 : Nat) : Int) := by
  have h := bits_and_u64_nat a 4294967295 ha (by omega)
  have e : a &&& 4294967295 = a % 4294967296 := Nat.and_two_pow_sub_one_eq_mod a 32
  rw [e] at h
  exact h
theorem divN (a : Nat) : (a : Int) / 4294967296 = ((a / 4294967296 : Nat) : Int) := by omega
theorem mulN (a b : Nat) : (a : Int) * (b : Int) = ((a * b : Nat) : Int) := (Int.natCast_mul a b).symm
theorem addN (a b : Nat) : (a : Int) + (b : Int) = ((a + b : Nat) : Int) := (Int.natCast_add a b).symm
theorem wrapN (a : Nat) (ha : a < 18446744073709551616) : IntKind.u64.wrap (a : Int) = (a : Int) := by rw [IntKind.wrap_u64]; omega
theorem wrapM (a : Nat) : IntKind.u64.wrap (a : Int) = ((a % 18446744073709551616 : Nat) : Int) := by rw [IntKind.wrap_u64]; omega
set_option maxHeartbeats 1000000 in
theorem mul64_any (x y : Nat) (hx : x < 18446744073709551616) (hy : y < 18446744073709551616) (w : World) :
    Calls Tryd.prog 59 #[.int .u64 x, .int .u64 y] w fun e w' => e = .returned (.tuple #[.int .u64 ((x * y / 18446744073709551616 : Nat) : Int), .int .u64 ((x * y % 18446744073709551616 : Nat) : Int)]) ∧ w = w' := by
  obtain ⟨bd, bt, bw, hhi⟩ := Lib.mul64_hi x y hx hy
  have ba := Lib.half_mul_le (a := x / 4294967296) (b := y / 4294967296) (by omega) (by omega)
  have bb := Lib.half_mul_le (a := x / 4294967296) (b := y % 4294967296) (by omega) (by omega)
  have bc := Lib.half_mul_le (a := x % 4294967296) (b := y / 4294967296) (by omega) (by omega)
  have ba' : x / 4294967296 * (y / 4294967296) < 18446744073709551616 := by omega
  have bb' : x / 4294967296 * (y % 4294967296) < 18446744073709551616 := by omega
  have bc' : x % 4294967296 * (y / 4294967296) < 18446744073709551616 := by omega
  have bh1 : x / 4294967296 * (y / 4294967296) + (x / 4294967296 * (y % 4294967296) + x % 4294967296 * (y % 4294967296) / 4294967296) / 4294967296 < 18446744073709551616 := by omega
  have bh : x / 4294967296 * (y / 4294967296) + (x / 4294967296 * (y % 4294967296) + x % 4294967296 * (y % 4294967296) / 4294967296) / 4294967296 + ((x / 4294967296 * (y % 4294967296) + x % 4294967296 * (y % 4294967296) / 4294967296) % 4294967296 + x % 4294967296 * (y / 4294967296)) / 4294967296 < 18446744073709551616 := by omega
  go_enter Tryd.func59, Tryd.ntmps59
  go_wp2
  simp only [maskN x hx, maskN y hy, divN, mulN, addN, wrapN _ bd, wrapN _ bb', wrapN _ bt, maskN _ bt, wrapN _ bc', wrapN _ bw, wrapN _ ba', wrapN _ bh1, wrapN _ bh, wrapM (x * y)]
  rw [hhi]
  go_ret2
  exact ⟨rfl, rfl⟩
set_option maxHeartbeats 1000000 in
theorem mul_any (x y : Nat) (hx : x < 18446744073709551616) (hy : y < 18446744073709551616) (w : World) :
    Calls Tryd.prog 45 #[.int .u64 x, .int .u64 y] w fun e w' => e = .returned (.tuple #[.int .u64 ((x * y / 18446744073709551616 : Nat) : Int), .int .u64 ((x * y % 18446744073709551616 : Nat) : Int)]) ∧ w = w' := by
  have c64 := mul64_any x y hx hy w
  go_enter Tryd.func45, Tryd.ntmps45
  go_wp2_with (go_at_call 59; refine c64.mono ?_; rintro e w' ⟨rfl, rfl⟩)
  go_ret2
  exact ⟨rfl, rfl⟩

/-- A row that is filled up to m. -/
def repL (c m : Nat) : List Value := List.replicate m (.int .i64 (-1)) ++ List.replicate (c - m) (.int .i64 0)
theorem repL_length {c m : Nat} (h : m ≤ c) : (repL c m).length = c := by simp [repL]; omega
theorem repL_splice {c m k : Nat} (h : m + k ≤ c) : splice (repL c m) m (List.replicate k (.int .i64 (-1))) = repL c (m + k) := by
  unfold splice repL
  rw [List.take_left' (by simp), List.length_replicate, ← List.append_assoc, List.replicate_append_replicate]
  congr 1
  rw [List.drop_append, List.drop_of_length_le (by simp), List.nil_append, List.drop_replicate]
  congr 1
  simp only [List.length_replicate]; omega
theorem copyR {W : World} {gr gs c m k : Nat} (os n dcap sl sc : Nat) (hg : Blk W gr 3 (repL c m).toArray) (hk : k = min sl n) (hsrc : ∀ j, j < k → W.cell? ⟨gs, os + j, none⟩ = some (.int .i64 (-1))) (hmk : m + k ≤ c) (hos : os = 0) :
    ∃ W1, (Builtin.copy_ #[35, 35] 3 #[.slice (some ⟨gr, m, none⟩) n dcap, .slice (some ⟨gs, os, none⟩) sl sc]).run Tryd.prog W = .ok (.int .i64 (k : Int)) W1 ∧ Blk W1 gr 3 (repL c (m + k)).toArray ∧ Below gr W W1 := by
  subst hos
  have h := run_copy_row (P := Tryd.prog) W 35 35 3 3 gr m n dcap ⟨gs, 0, none⟩ sl sc (repL c m).toArray 3 (List.replicate k (.int .i64 (-1))) elIt.ht (by kernel_rfl) hg (by rw [List.length_replicate]; exact hk) (fun j v hj => by
    rw [List.getElem?_replicate] at hj
    split at hj
    · rename_i hlt
      injection hj with hj
      subst hj
      have := hsrc j hlt
      rcases Nat.eq_zero_or_pos j with h0 | h0
      · subst h0; exact this
      · simpa [Addr.add, Nat.pos_iff_ne_zero.1 h0] using this
    · cases hj) (by simp only [List.length_replicate, List.size_toArray]; rw [repL_length (by omega)]; exact hmk) (by intro v hv; obtain ⟨_, rfl⟩ := List.mem_replicate.1 hv; rfl)
  have e : (repL c m).take m ++ List.replicate k (Value.int .i64 (-1)) ++ (repL c m).drop (m + (List.replicate k (Value.int .i64 (-1))).length) = repL c (m + k) := by
    rw [← repL_splice hmk, List.append_assoc]; rfl
  rw [List.toList_toArray, e, List.length_replicate] at h
  refine ⟨_, h, setRow_heap W gr _ _ _ _ hg, below_setRow (Below.refl _ _) (Nat.le_refl _) _⟩
theorem rep_src {W : World} {gr c m k : Nat} (hg : Blk W gr 3 (repL c m).toArray) (hk : k ≤ m) {j : Nat} {v : Value} (hj : (List.replicate k (Value.int .i64 (-1)))[j]? = some v) : W.cell? ((⟨gr, 0, none⟩ : Addr).add j) = some v := by
  rw [List.getElem?_replicate] at hj
  split at hj
  · rename_i hlt
    injection hj with hj
    subst hj
    have h1 : W.cell? ⟨gr, j, none⟩ = some (.int .i64 (-1)) := by
      rw [hg.cell]
      simp only [repL, List.getElem?_toArray]
      rw [List.getElem?_append_left (by simp; omega), List.getElem?_replicate, if_pos (by omega)]
    rcases Nat.eq_zero_or_pos j with h0 | h0
    · subst h0; exact h1
    · simpa [Addr.add, Nat.pos_iff_ne_zero.1 h0] using h1
  · cases hj
set_option maxRecDepth 20000 in
set_option maxHeartbeats 4000000 in
theorem repeatI_any {w : World} {gx c : Nat} (hB : Blk w gx 3 #[.int .i64 (-1)]) (h1 : 1 ≤ c) (hc : c ≤ 1000000) : Calls Tryd.prog 26 #[.slice (some ⟨gx, 0, none⟩) 1 1, .int .i64 (c : Int)] w fun e w' =>
    ∃ gr, e = .returned (.slice (some ⟨gr, 0, none⟩) c c) ∧ Blk w' gr 3 (repL c c).toArray ∧ w.heap.size ≤ gr ∧ Below w.heap.size w w' := by
  have hm := mul_any 1 c (by omega) (by omega) w
  rw [Nat.one_mul, Nat.div_eq_of_lt (by omega), Nat.mod_eq_of_lt (by omega)] at hm
  have d0 : decide ((c : Int) < 0) = false := decide_eq_false (by omega)
  have i0 : ¬ (c : Int) < 0 := by omega
  have d1 : decide ((9223372036854775807 : Int) < (c : Int)) = false := decide_eq_false (by omega)
  have i1 : ¬ (9223372036854775807 : Int) < (c : Int) := by omega
  have e1 : IntKind.u64.wrap (c : Int) = (c : Int) := wrapN c (by omega)
  have e2 : IntKind.i64.wrap (c : Int) = (c : Int) := IntWalk.i64_in _ (by omega)
  have e3 : IntKind.u64.wrap (1 : Int) = (1 : Int) := by decide
  have HB := Lib.hid hB
  have HC := Lib.hid hc
  have H1 := Lib.hid h1
  clear hB h1 hc
  go_enter Tryd.func26, Tryd.ntmps26
  go_wp2_with (go_at_call 45; refine hm.mono ?_; rintro e w' ⟨rfl, rfl⟩)
  simp only [mkIntsT _ HC.out, Result.andThen_ok]
  have hb0 : Below w.heap.size w (w.alloc (.cells (Array.replicate c (Value.int .i64 0)) 3)) := (Below.refl _ _).alloc (Nat.le_refl _) _
  have hg0 : Blk (w.alloc (.cells (Array.replicate c (Value.int .i64 0)) 3)) w.heap.size 3 (repL c 0).toArray := by
    rw [show (repL c 0).toArray = Array.replicate c (Value.int .i64 0) by simp [repL]]
    exact Blk.new w _ _
  have hx0 : Blk (w.alloc (.cells (Array.replicate c (Value.int .i64 0)) 3)) gx 3 #[.int .i64 (-1)] := HB.out.alloc _
  have hcx : ∀ j, j = 0 → (w.alloc (.cells (Array.replicate c (Value.int .i64 0)) 3)).cell? ⟨gx, 0 + j, none⟩ = some (.int .i64 (-1)) := fun j hj => by
    subst hj
    simpa using hx0.cell 0
  obtain ⟨W2, hrun, hg1, hb1⟩ : ∃ W2, (Builtin.copy_ #[35, 35] 3 #[.slice (some ⟨w.heap.size, 0, none⟩) c c, .slice (some ⟨gx, 0, none⟩) 1 1]).run Tryd.prog (w.alloc (.cells (Array.replicate c (Value.int .i64 0)) 3)) = .ok (.int .i64 (1 : Int)) W2 ∧ Blk W2 w.heap.size 3 (repL c 1).toArray ∧ Below w.heap.size (w.alloc (.cells (Array.replicate c (Value.int .i64 0)) 3)) W2 :=
    copyR (m := 0) (k := 1) 0 c c 1 1 hg0 (by have := H1.out; omega) (fun j hj => hcx j (by omega)) (by have := H1.out; omega) rfl
  have HG1 : Hid (Blk W2 w.heap.size 3 (repL c 1).toArray ∧ Below w.heap.size w W2) := Lib.hid ⟨hg1, hb0.trans hb1⟩
  clear hb0 hg0 hx0 hg1 hb1 hm hcx
  generalize w.alloc (.cells (Array.replicate c (Value.int .i64 0)) 3) = W0 at hrun ⊢
  generalize hgr : w.heap.size = gr at HG1 hrun ⊢
  have HGR := Lib.hid hgr
  clear hgr HB
  go_wp2_with fail
  clear hrun
  go_loopg [8] c (fun q i wr => ∃ (m : Nat), q = c + 1 - m ∧ m ≤ c ∧ i = .int .i64 (m : Int) ∧ Hid (1 ≤ m ∧ Blk wr gr 3 (repL c m).toArray ∧ Below gr w wr))
  case atStart => exact ⟨1, by omega, H1.out, rfl, Lib.hid ⟨Nat.le_refl _, HG1.out.1, HG1.out.2⟩⟩
  case round =>
    obtain ⟨m, hgk, hmc, rfl, HM⟩ := hrel
    have HG := Lib.hid hgk
    clear hgk
    by_cases hlt : m < c
    · have hi : (m : Int) < (c : Int) := by omega
      have hdi : decide ((m : Int) < (c : Int)) = true := decide_eq_true hi
      have hle : (m : Int) ≤ (c : Int) := by omega
      have hne : ¬ c = m := by omega
      have hgm := HM.out.2.1
      obtain ⟨k, hk⟩ : ∃ k, k = min m (c - m) := ⟨_, rfl⟩
      have HK : Hid (k ≤ c - m ∧ 1 ≤ k ∧ k ≤ m ∧ k = min m (c - m)) := Lib.hid ⟨by omega, by have := HM.out.1; omega, by omega, hk⟩
      clear hk
      go_upto_region 9 with fail
      refine wp_region_U (S := fun w' => Blk w' gr 3 (repL c m).toArray) (t := 7) (by kernel_rfl) ?_
      have hS : Blk wr.drew gr 3 (repL c m).toArray := HM.out.2.1
      refine wpAnyU_pure (i := 0) (v := ?_) rfl (by kernel_rfl) (by kernel_rfl) (by kernel_rfl) (fun _ _ _ h => h) (by kernel_rfl) (Or.inl ⟨by rfl, ?_⟩) (Or.inr hS) ?_
      rotate_left
      · (intro w _; go_simp; try with_reducible rfl)
      try simp only [List.getElem_toArray, List.getElem_cons_zero, Act.put, List.setIfInBounds_toArray, List.set_cons_zero, List.set_cons_succ]
      refine wpAnyU_pure (i := 1) (v := ?_) rfl (by kernel_rfl) (by kernel_rfl) (by kernel_rfl) (fun _ _ _ h => h) (by kernel_rfl) (Or.inl ⟨by rfl, ?_⟩) (Or.inr hS) ?_
      rotate_left
      · (intro w _; go_simp; try with_reducible rfl)
      try simp only [List.getElem_toArray, List.getElem_cons_succ, List.getElem_cons_zero, Act.put, List.setIfInBounds_toArray, List.set_cons_zero, List.set_cons_succ]
      refine wpAnyU_pure (i := 2) (v := ?_) rfl (by kernel_rfl) (by kernel_rfl) (by kernel_rfl) (fun _ _ _ h => h) (by kernel_rfl) (Or.inl ⟨by rfl, ?_⟩) (Or.inr hS) ?_
      rotate_left
      · (intro w _; go_simp; try with_reducible rfl)
      try simp only [List.getElem_toArray, List.getElem_cons_succ, List.getElem_cons_zero, Act.put, List.setIfInBounds_toArray, List.set_cons_zero, List.set_cons_succ]
      refine wpAnyU_pure (i := 3) (v := ?_) rfl (by kernel_rfl) (by kernel_rfl) (by kernel_rfl) (fun _ _ _ h => h) (by kernel_rfl) (Or.inl ⟨by rfl, ?_⟩) (Or.inr hS) ?_
      rotate_left
      · (intro w _; go_simp; try with_reducible rfl)
      try simp only [List.getElem_toArray, List.getElem_cons_succ, List.getElem_cons_zero, Act.put, List.setIfInBounds_toArray, List.set_cons_zero, List.set_cons_succ]
      refine wpAnyU_pure (i := 4) (v := ?_) rfl (by kernel_rfl) (by kernel_rfl) (by kernel_rfl) (fun _ _ _ h => h) (by kernel_rfl) (Or.inl ⟨by rfl, ?_⟩) (Or.inr hS) ?_
      rotate_left
      · (intro w _; go_simp; try with_reducible rfl)
      try simp only [List.getElem_toArray, List.getElem_cons_succ, List.getElem_cons_zero, Act.put, List.setIfInBounds_toArray, List.set_cons_zero, List.set_cons_succ]
      refine wpAnyU_pure (i := 5) (v := ?_) rfl (by kernel_rfl) (by kernel_rfl) (by kernel_rfl) (fun _ _ _ h => h) (by kernel_rfl) (Or.inl ⟨by rfl, ?_⟩) (Or.inr hS) ?_
      rotate_left
      · (intro w _; go_simp; try with_reducible rfl)
      try simp only [List.getElem_toArray, List.getElem_cons_succ, List.getElem_cons_zero, Act.put, List.setIfInBounds_toArray, List.set_cons_zero, List.set_cons_succ]
      refine wpAnyU_pure (i := 6) (v := ?_) rfl (by kernel_rfl) (by kernel_rfl) (by kernel_rfl) (fun _ _ _ h => h) (by kernel_rfl) (Or.inl ⟨by rfl, ?_⟩) (Or.inr hS) ?_
      rotate_left
      · (intro w _; go_simp; try with_reducible rfl)
      try simp only [List.getElem_toArray, List.getElem_cons_succ, List.getElem_cons_zero, Act.put, List.setIfInBounds_toArray, List.set_cons_zero, List.set_cons_succ]
      refine wpAnyU_one (i := 7) (by kernel_rfl) rfl (fun K hK => ?_)
      refine step_copy_splice (by rfl) (.tmp 41) (.tmp 44) 35 35 (by rfl) 3 Tryd.underlying35 (by kernel_rfl) _ _ _ _ _ _ (by rfl) (by rfl) gr m (repL c m) 3 hS (List.replicate k (.int .i64 (-1))) (by rw [List.length_replicate]; exact HK.out.2.2.2) (fun _ => ⟨rfl, ⟨gr, 0, none⟩, rfl, fun j v hj => ?src⟩) ?fit (by intro v hv; obtain ⟨_, rfl⟩ := List.mem_replicate.1 hv; rfl) gr w HM.out.2.2.drew (Nat.le_refl _) ?_
      case src => exact rep_src hS HK.out.2.2.1 hj
      case fit => rw [List.length_replicate, repL_length hmc]; have := HK.out.1; omega
      intro w1 hg1 hb1
      rw [repL_splice (by have := HK.out.1; omega)] at hg1
      rw [List.length_replicate]
      refine hK _ _ (Or.inl (by rfl)) ?_
      clear hK K
      try simp only [List.getElem_toArray, List.getElem_cons_succ, List.getElem_cons_zero, Act.put, List.setIfInBounds_toArray, List.set_cons_zero, List.set_cons_succ]
      refine wpAnyU_pure (i := 8) (v := ?_) rfl (by kernel_rfl) (by kernel_rfl) (by kernel_rfl) (fun _ _ _ h => h) (by kernel_rfl) (Or.inl ⟨by rfl, ?_⟩) (Or.inl (by rfl)) ?_
      rotate_left
      · (intro w _; go_simp; try with_reducible rfl)
      try simp only [List.getElem_toArray, List.getElem_cons_succ, List.getElem_cons_zero, Act.put, List.setIfInBounds_toArray, List.set_cons_zero, List.set_cons_succ]
      refine wpAnyU_pure (i := 9) (v := ?_) rfl (by kernel_rfl) (by kernel_rfl) (by kernel_rfl) (fun _ _ _ h => h) (by kernel_rfl) (Or.inl ⟨by rfl, ?_⟩) (Or.inl (by rfl)) ?_
      rotate_left
      · (intro w _; go_simp; try with_reducible rfl)
      try simp only [List.getElem_toArray, List.getElem_cons_succ, List.getElem_cons_zero, Act.put, List.setIfInBounds_toArray, List.set_cons_zero, List.set_cons_succ]
      refine wpAnyU_done (by kernel_rfl) ?_ _
      have HG2 := hg1
      have HB2 := Lib.hid hb1
      clear hg1 hb1 hS
      go_wp2_with fail
      go_roundg (c + 1 - (m + k))
      case measure => have := HG.out; have := HK.out; omega
      case rel => exact ⟨m + k, rfl, by have := HK.out.1; omega, by have h1 := HK.out.1; have h2 := HC.out; rw [IntWalk.i64_in ((m : Int) + (k : Int)) (by omega)]; rfl, Lib.hid ⟨by have := HM.out.1; omega, HG2.out, HB2.out⟩⟩
    · obtain rfl : m = c := by omega
      have hi : ¬ (m : Int) < (m : Int) := by omega
      clear hlt
      go_wp2_with fail
      go_ret
      exact ⟨gr, by simp, HM.out.2.1, by have := HGR.out; omega, by rw [HGR.out]; exact HM.out.2.2⟩
end Go.Proofs.YtbhcgjahlfpjoaaDoor
