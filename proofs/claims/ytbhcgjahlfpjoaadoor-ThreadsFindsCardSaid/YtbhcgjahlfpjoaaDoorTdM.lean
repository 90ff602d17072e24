/- The document's walk through places, in memory; what it tells, in plain words. The document's walk through places: come. The document's walk through places: Run, Find, Want. -/
import Derived.Test.YtbhcgjahlfpjoaaDoorTl1
import Derived.Test.YtbhcgjahlfpjoaaDoorLoM
namespace Go.Proofs.YtbhcgjahlfpjoaaDoor
open Go.RowKit

section
variable {L : List MI} {l : List (Int × Nat)} {st : Int} {c : Nat}
/-- What the document's walk from a place finds is what begins there. -/
theorem run_G (hL : Leads3 L) (h0 : 0 ≤ st) (hn : st < (L.length : Int)) (hc : 2 ≤ c) {N s : Nat} (hN : l.length = N + 1) (hs : s ≤ N) (lng : Bool) {V' : Lev} {b' : Option (List Int)}
    (h : Dfs L (TP l) (RP l) lng N (fun _ => []) none st s (fit0 (c : Int) s) V' b') : b' = atG L l st c lng (l.length - s) s := by
  have hR : ∀ x, RP l N x = false := fun x => by
    unfold RP
    rw [decide_eq_false (by omega)]
    rfl
  unfold atG
  rw [show l.length - s = N - s + 1 by omega]
  cases lng with
  | true => exact run_long hL hR h h0 hn hs (by rw [fit0_length]; omega)
  | false => exact run_short hL hR h h0 hn hs
theorem findR_anch (hC : CapsAt L) (hc : 2 ≤ c) (lng : Bool) (s : Nat) (hs : s < l.length) : findR L l st (c : Int) (s : Int) true lng = atG L l st c lng (l.length - s) s := by
  have hf0 : ∀ j, beg (fit0 (c : Int) j) = (j : Int) := fun j => fit0_beg (by omega) j
  unfold findR atG
  rw [if_neg (by rintro ⟨_, h | h⟩ <;> omega), Int.toNat_natCast]
  obtain ⟨k, hk⟩ : ∃ k, l.length - s = k + 1 := ⟨l.length - s - 1, by omega⟩
  rw [hk]
  cases lng with
  | true => exact long_anch hC hf0 (fun j => by rw [fit0_length, Int.toNat_natCast]; exact hc) s k
  | false => exact find_anch0 hC s k
theorem findR_from (hL : Leads3 L) (hC : CapsAt L) (hc : 2 ≤ c) (h0 : 0 ≤ st) (hn : st < (L.length : Int)) (lng : Bool) (frm : Int) : findR L l st (c : Int) frm false lng = fromG L l st c lng frm.toNat := by
  unfold findR fromG
  rw [if_neg (by simp)]
  exact findP_G hL hC hc h0 hn lng _ _
theorem fromG_step {lng : Bool} {j : Nat} (h : j < l.length) : fromG L l st c lng j = (atG L l st c lng (l.length - j) j).or (fromG L l st c lng (j + 1)) := by
  unfold fromG
  obtain ⟨k, hk⟩ : ∃ k, l.length - j = k + 1 := ⟨l.length - j - 1, by omega⟩
  rw [hk, show l.length - (j + 1) = k by omega]
  rfl
theorem fromG_end {lng : Bool} {j : Nat} (h : l.length ≤ j) : fromG L l st c lng j = none := by
  unfold fromG
  rw [show l.length - j = 0 by omega]
  rfl
end

/-- A match in memory. -/
def BestF (W : World) (Z : Nat → Prop) (v : Value) (b : Option (List Int)) : Prop :=
  match b with | none => v = .slice none 0 0 | some f => FitIn W Z v f
/-- Outside the walk's two blocks. -/
def Zt (g gs : Nat) (k : Nat) : Prop := k = g ∨ k = gs
/-- The walk: its block, the bits, the best match. -/
structure ThM (b0 : Nat) (W : World) (g gs : Nat) (PA : Option Addr) (n pcap : Nat) (st cp : Int) (gi : Nat) (N : Nat) (lng : Bool) (B : List Bool) (V : Lev) (bv : Value) (b : Option (List Int)) : Prop where
  box : Blk W g 122 #[.slice PA n pcap, .int .i64 st, .int .i64 cp, .pointer (some ⟨gi, 0, none⟩), .int .i64 (N : Int), .bool lng, .slice (some ⟨gs, 0, none⟩) ((N + 1) * n) ((N + 1) * n), bv]
  seen : Blk W gs 4 (B.map Value.bool).toArray
  len : B.length = (N + 1) * n
  bits : ∀ j pc, j ≤ N → pc < n → B[j * n + pc]? = some (inT (V j) (pc : Int))
  best : BestF W (Zt g gs) bv b
  bl : ∀ f, b = some f → 2 ≤ f.length
  bg : b0 ≤ g
  bs : b0 ≤ gs
  bw : b0 ≤ W.heap.size
section
variable {b0 : Nat} {W W1 W2 : World} {g gs : Nat} {PA : Option Addr} {n pcap : Nat} {st cp : Int} {gi N : Nat} {lng : Bool} {B : List Bool} {V : Lev} {bv : Value} {b : Option (List Int)}
theorem ThM.ne (h : ThM b0 W g gs PA n pcap st cp gi N lng B V bv b) : g ≠ gs := Blk.ne h.box h.seen (by decide)
theorem BestF.frm {W W' : World} {S Z : Nat → Prop} {v : Value} {b : Option (List Int)} (h : BestF W Z v b) (hf : Frm S W W') (hS : ∀ k, S k → Z k) : BestF W' Z v b := by
  cases b with
  | none => exact h
  | some f => exact FitIn.frm h hf hS fun _ h => .inl h
/-- New blocks alone are written. -/
theorem ThM.below (h : ThM b0 W g gs PA n pcap st cp gi N lng B V bv b) (hb : Below W.heap.size W W1) : ThM b0 W1 g gs PA n pcap st cp gi N lng B V bv b :=
  ⟨h.box.below hb h.box.lt, h.seen.below hb h.seen.lt, h.len, h.bits, h.best.frm (Frm.of_below (S := fun _ => False) hb) fun _ h => h.elim, h.bl, h.bg, h.bs, Nat.le_trans h.bw hb.size⟩
theorem ThM.seenAt (h : ThM b0 W g gs PA n pcap st cp gi N lng B V bv b) {j pc : Nat} (hj : j ≤ N) (hp : pc < n) : W.cell? ⟨gs, j * n + pc, none⟩ = some (.bool (inT (V j) (pc : Int))) := by
  rw [h.seen.cell]
  simp [h.bits j pc hj hp]
theorem bit_inj {n j k p q : Nat} (hp : p < n) (hq : q < n) (h : j * n + p = k * n + q) : j = k ∧ p = q := by
  have h1 : (j * n + p) / n = j := by rw [Nat.mul_comm, Nat.mul_add_div (by omega), Nat.div_eq_of_lt hp]; rfl
  have h2 : (k * n + q) / n = k := by rw [Nat.mul_comm, Nat.mul_add_div (by omega), Nat.div_eq_of_lt hq]; rfl
  have hjk : j = k := by rw [← h1, h, h2]
  subst hjk
  exact ⟨rfl, by omega⟩
theorem bit_lt {n j N p : Nat} (hj : j ≤ N) (hp : p < n) : j * n + p < (N + 1) * n := by
  have : j * n ≤ N * n := Nat.mul_le_mul_right _ hj
  rw [Nat.add_mul, Nat.one_mul]; omega
/-- Something is come to. -/
theorem ThM.mark (h : ThM b0 W g gs PA n pcap st cp gi N lng B V bv b) {j pc : Nat} (hj : j ≤ N) (hp : pc < n) (fit : List Int) :
    ThM b0 (W.setCell ⟨gs, j * n + pc, none⟩ (.bool true)) g gs PA n pcap st cp gi N lng (B.set (j * n + pc) true) (V.add j ((pc : Int), fit)) bv b := by
  refine ⟨h.box.far h.ne _, ?_, by rw [List.length_set]; exact h.len, fun k q hk hq => ?_, ?_, h.bl, h.bg, h.bs, by simp only [World.setCell, Array.size_modify]; exact h.bw⟩
  · have := h.seen.set (j * n + pc) (.bool true)
    simpa [List.map_set] using this
  · by_cases he : j * n + pc = k * n + q
    · obtain ⟨rfl, rfl⟩ := bit_inj hp hq he
      rw [List.getElem?_set_self (by rw [h.len]; exact bit_lt hj hp), Lev.add_at, inT_app]
      simp [inT]
    · rw [List.getElem?_set_ne he, h.bits k q hk hq]
      congr 1
      by_cases hkj : k = j
      · subst hkj
        rw [Lev.add_at, inT_app]
        have : inT [((pc : Int), fit)] (q : Int) = false := by
          simp only [inT, List.any_cons, List.any_nil, Bool.or_false, beq_eq_false_iff_ne, ne_eq]
          intro e
          exact he (by omega)
        rw [this, Bool.or_false]
      · rw [Lev.add_ne _ _ hkj]
  · refine h.best.frm (S := fun k => k = gs) (Frm.set (Frm.refl (fun k => k = gs) W) (p := ⟨gs, j * n + pc, none⟩) (.inl rfl) _) fun k hk => .inr hk
theorem left_set {B : List Bool} {i : Nat} (h : B[i]? = some false) : (B.set i true).count false + 1 = B.count false := by
  induction B generalizing i with
  | nil => simp at h
  | cons a B ih =>
    cases i with
    | zero =>
      simp only [List.getElem?_cons_zero, Option.some.injEq] at h
      subst h
      simp
    | succ i =>
      simp only [List.getElem?_cons_succ] at h
      have := ih h
      simp only [List.set_cons_succ, List.count_cons]
      omega
/-- A better match is kept. -/
theorem ThM.keep (h : ThM b0 W g gs PA n pcap st cp gi N lng B V bv b) {v : Value} {f : List Int} (hf : FitIn W (Zt g gs) v f) (h2 : 2 ≤ f.length) : ThM b0 (W.setCell ⟨g, 7, none⟩ v) g gs PA n pcap st cp gi N lng B V v (some f) := by
  refine ⟨?_, h.seen.far (Ne.symm h.ne) _, h.len, h.bits, ?_, (fun _ e => by injection e with e; subst e; exact h2), h.bg, h.bs, by simp only [World.setCell, Array.size_modify]; exact h.bw⟩
  · have := h.box.set 7 v
    simpa using this
  · exact FitIn.frm hf (S := fun k => k = g) (Frm.set (Frm.refl (fun k => k = g) W) (p := ⟨g, 7, none⟩) (.inl rfl) _) (fun k hk => .inl hk) fun _ h => .inl h
/-- The kept match's end is set. -/
theorem ThM.best1 {gB m uc base : Nat} {fit : List Int} (h : ThM b0 W g gs PA n pcap st cp gi N lng B V (.slice (some ⟨gB, 0, none⟩) m uc) b) (ho : W.ownsRow base 3 1 (.slice (some ⟨gB, 0, none⟩) m uc) m (i64s fit)) (hg : g < base) (hgs : gs < base) (hp : 2 ≤ m) (u : Int) :
    ThM b0 (W.setCell ⟨gB, 1, none⟩ (.int .i64 u)) g gs PA n pcap st cp gi N lng B V (.slice (some ⟨gB, 0, none⟩) m uc) (some (fit.set 1 u)) := by
  have hb : base ≤ gB := (ho.lt gB (by simp [Value.ownBlock])).1
  have hl : fit.length = m := by have := ho.1; rw [i64s_length] at this; omega
  have ho2 := (ho.stored 1 (.int .i64 u)).1
  rw [show (i64s fit).set 1 (.int .i64 u) = i64s (fit.set 1 u) by simp [i64s, List.map_set]] at ho2
  refine ⟨h.box.far (show g ≠ gB by omega) _, h.seen.far (show gs ≠ gB by omega) _, h.len, h.bits, ?_, (fun _ e => by injection e with e; subst e; rw [List.length_set]; omega), h.bg, h.bs, by simp only [World.setCell, Array.size_modify]; exact h.bw⟩
  exact FitIn.of_own ho2 (by omega) fun k hk => by rcases hk with rfl | rfl <;> assumption
end
end Go.Proofs.YtbhcgjahlfpjoaaDoor
namespace Go.Proofs.YtbhcgjahlfpjoaaDoor
open Go.RowKit

theorem rp_eq {m : List (Int × Nat)} {e0 N j : Nat} (hN : m.length = N) (hj : j ≤ N) (x : MI) : RP (full m e0) j x = hasB x.set (runeAt (full m e0) (j : Int)) := by
  unfold RP
  by_cases h : j < N
  · rw [decide_eq_true (by rw [full_length]; omega)]
    rfl
  · rw [decide_eq_false (by rw [full_length]; omega), runeAt_out m e0 (j : Int) (.inr (by omega))]
    cases hh : hasB x.set (-1) with
    | false => rfl
    | true => exact absurd ((hasB_iff x.set (-1)).1 hh).1.1 (by decide)
def ThB (b0 : Nat) (g gs : Nat) (PA : Option Addr) (n pcap : Nat) (st cp : Int) (gi N : Nat) (lng : Bool) (L : List MI) (l : List (Int × Nat)) (V : Lev) (b : Option (List Int)) (B : List Bool) (pc : Int) (j : Nat) (fit : List Int) (W : World) (e : Ending) (W' : World) : Prop :=
  e = .returned (.tuple #[]) ∧ ∃ V' b' B' bv', Dfs L (TP l) (RP l) lng N V b pc j fit V' b' ∧ ThM b0 W' g gs PA n pcap st cp gi N lng B' V' bv' b' ∧ Frm (Zt g gs) W W' ∧ B'.count false ≤ B.count false
/-- come of what leaves less than M. -/
def ThH (w0 : World) (g gs : Nat) (PA : Option Addr) (n pcap : Nat) (st cp : Int) (gi N : Nat) (lng : Bool) (L : List MI) (l : List (Int × Nat)) (M : Nat) : Prop :=
  ∀ (W : World) (V : Lev) (B : List Bool) (bv : Value) (b : Option (List Int)) (pc : Int) (j : Nat) (F : Option Addr) (fc : Nat) (fit : List Int), ThM w0.heap.size W g gs PA n pcap st cp gi N lng B V bv b → Below w0.heap.size w0 W → FitIn W (Zt g gs) (.slice F fit.length fc) fit → (fit.length : Int) = cp → 0 ≤ pc → pc < (n : Int) → j ≤ N + 1 → B.count false < M →
    Calls Tryd.prog 51 #[.pointer (some ⟨g, 0, none⟩), .int .i64 pc, .int .i64 (j : Int), .slice F fit.length fc] W (ThB w0.heap.size g gs PA n pcap st cp gi N lng L l V b B pc j fit W)
theorem not_stop {lng : Bool} {N : Nat} {V : Lev} {b : Option (List Int)} {pc : Int} {j : Nat} (hnd : b = none ∨ lng = true) (hj : j ≤ N) (hin : inT (V j) pc = false) : ¬ stopD lng N V b pc j := by
  rintro (⟨h1, h2⟩ | h | h)
  · rcases hnd with h3 | h3
    · exact h1 h3
    · rw [h3] at h2; cases h2
  · omega
  · rw [hin] at h; cases h
theorem best_two {W : World} {Z : Nat → Prop} {bv : Value} {b : Option (List Int)} {lng : Bool} (hnd : b = none ∨ lng = true) (h : BestF W Z bv b) : (b = none ∧ bv = .slice none 0 0) ∨ (lng = true ∧ ∃ cb, b = some cb ∧ FitIn W Z bv cb) := by
  cases b with
  | none => exact .inl ⟨rfl, h⟩
  | some cb =>
    rcases hnd with h1 | h1
    · cases h1
    · exact .inr ⟨h1, cb, rfl, h⟩
theorem Frm.zt {b0 : Nat} {W W' : World} {g gs : Nat} (h : Frm (Zt g gs) W W') (h1 : b0 ≤ g) (h2 : b0 ≤ gs) (h3 : b0 ≤ W.heap.size) : Below b0 W W' := h.below (fun k hk => by rcases hk with rfl | rfl <;> assumption) h3

set_option maxRecDepth 20000 in
set_option maxHeartbeats 4000000 in
theorem th_late {w0 W : World} {g gs : Nat} {PA : Option Addr} {n pcap : Nat} {st cp : Int} {gi N : Nat} {lng : Bool} {L : List MI} {m : List (Int × Nat)} {e0 : Nat} {V : Lev} {B : List Bool} {bv : Value} {b : Option (List Int)} {q j : Nat} {F : Option Addr} {fc : Nat} {fit : List Int} (hM : ThM w0.heap.size W g gs PA n pcap st cp gi N lng B V bv b) (hq : q < n) (hj : N < j) (hj2 : j ≤ N + 1) (hNb : N ≤ 100000) (hn : n ≤ 10000) : Calls Tryd.prog 51 #[.pointer (some ⟨g, 0, none⟩), .int .i64 (q : Int), .int .i64 (j : Int), .slice F fit.length fc] W (ThB w0.heap.size g gs PA n pcap st cp gi N lng L (full m e0) V b B (q : Int) j fit W) := by
  obtain ⟨K, hK⟩ : ∃ K, K = (N + 1) * n := ⟨_, rfl⟩
  obtain ⟨p, hp⟩ : ∃ p, p = j * n := ⟨_, rfl⟩
  obtain ⟨a, ha⟩ : ∃ a, a = p + q := ⟨_, rfl⟩
  have hpb : p ≤ 100001 * 10000 := by rw [hp]; exact Nat.mul_le_mul (by omega) hn
  have hw1 : IntKind.i64.wrap ((j : Int) * (n : Int)) = (p : Int) := by rw [mulN, ← hp]; exact IntWalk.i64_in _ (by omega)
  have hw2 : IntKind.i64.wrap ((p : Int) + (q : Int)) = (a : Int) := by rw [addN, ← ha]; exact IntWalk.i64_in _ (by omega)
  have b0 := hM.box.cell 0
  have b3 := hM.box.cell 3
  have b4 := hM.box.cell 4
  have b5 := hM.box.cell 5
  have b6 := hM.box.cell 6
  have b7 := hM.box.cell 7
  simp only [List.getElem?_toArray, List.getElem?_cons_zero, List.getElem?_cons_succ] at b0 b3 b4 b5 b6 b7
  rw [← hK] at b6
  have d0 : (N : Int) < (j : Int) := by omega
  have HM := Lib.hid hM
  have HJ := Lib.hid hj
  clear hM hq hj hj2 hp ha hK hpb
  go_enter Tryd.func51, Tryd.ntmps51
  go_wp2_with fail
  first | (refine bodyPost_ret (results_none (by rfl) _ _ _) (by rfl) ?_) | (refine bodyPost_end (results_none (by rfl) _ _ _) (by rfl) ?_)
  exact ⟨rfl, V, b, B, bv, .stop (.inr (.inl HJ.out)), HM.out, Frm.refl _ _, Nat.le_refl _⟩

set_option maxRecDepth 20000 in
set_option maxHeartbeats 4000000 in
theorem th_seen {w0 W : World} {g gs : Nat} {PA : Option Addr} {n pcap : Nat} {st cp : Int} {gi N : Nat} {lng : Bool} {L : List MI} {m : List (Int × Nat)} {e0 : Nat} {V : Lev} {B : List Bool} {bv : Value} {b : Option (List Int)} {q j : Nat} {F : Option Addr} {fc : Nat} {fit : List Int} (hM : ThM w0.heap.size W g gs PA n pcap st cp gi N lng B V bv b) (hq : q < n) (hj : j ≤ N) (hin : inT (V j) (q : Int) = true) (hNb : N ≤ 100000) (hn : n ≤ 10000) : Calls Tryd.prog 51 #[.pointer (some ⟨g, 0, none⟩), .int .i64 (q : Int), .int .i64 (j : Int), .slice F fit.length fc] W (ThB w0.heap.size g gs PA n pcap st cp gi N lng L (full m e0) V b B (q : Int) j fit W) := by
  obtain ⟨K, hK⟩ : ∃ K, K = (N + 1) * n := ⟨_, rfl⟩
  obtain ⟨p, hp⟩ : ∃ p, p = j * n := ⟨_, rfl⟩
  obtain ⟨a, ha⟩ : ∃ a, a = p + q := ⟨_, rfl⟩
  have hpb : p ≤ 100001 * 10000 := by rw [hp]; exact Nat.mul_le_mul (by omega) hn
  have hw1 : IntKind.i64.wrap ((j : Int) * (n : Int)) = (p : Int) := by rw [mulN, ← hp]; exact IntWalk.i64_in _ (by omega)
  have hw2 : IntKind.i64.wrap ((p : Int) + (q : Int)) = (a : Int) := by rw [addN, ← ha]; exact IntWalk.i64_in _ (by omega)
  have b0 := hM.box.cell 0
  have b3 := hM.box.cell 3
  have b4 := hM.box.cell 4
  have b5 := hM.box.cell 5
  have b6 := hM.box.cell 6
  have b7 := hM.box.cell 7
  simp only [List.getElem?_toArray, List.getElem?_cons_zero, List.getElem?_cons_succ] at b0 b3 b4 b5 b6 b7
  rw [← hK] at b6
  have d0 : ¬ (N : Int) < (j : Int) := by omega
  have c2 := hM.seenAt hj hq
  rw [← hp, ← ha, hin] at c2
  have hai : (a : Int) < (K : Int) := by have := bit_lt hj hq; omega
  have HM := Lib.hid hM
  have HI := Lib.hid hin
  clear hM hq hj hin hp ha hK hpb
  go_enter Tryd.func51, Tryd.ntmps51
  go_wp2_with fail
  first | (refine bodyPost_ret (results_none (by rfl) _ _ _) (by rfl) ?_) | (refine bodyPost_end (results_none (by rfl) _ _ _) (by rfl) ?_)
  exact ⟨rfl, V, b, B, bv, .stop (.inr (.inr HI.out)), HM.out, Frm.refl _ _, Nat.le_refl _⟩

set_option maxRecDepth 20000 in
set_option maxHeartbeats 4000000 in
theorem th_done {w0 W : World} {g gs : Nat} {PA : Option Addr} {n pcap : Nat} {st cp : Int} {gi N : Nat} {L : List MI} {m : List (Int × Nat)} {e0 : Nat} {V : Lev} {B : List Bool} {bv : Value} {q j : Nat} {F : Option Addr} {fc : Nat} {fit : List Int} {cb : List Int} (hM : ThM w0.heap.size W g gs PA n pcap st cp gi N false B V bv (some cb)) (hq : q < n) (hj : j ≤ N) (hin : inT (V j) (q : Int) = false) (hNb : N ≤ 100000) (hn : n ≤ 10000) : Calls Tryd.prog 51 #[.pointer (some ⟨g, 0, none⟩), .int .i64 (q : Int), .int .i64 (j : Int), .slice F fit.length fc] W (ThB w0.heap.size g gs PA n pcap st cp gi N false L (full m e0) V (some cb) B (q : Int) j fit W) := by
  obtain ⟨K, hK⟩ : ∃ K, K = (N + 1) * n := ⟨_, rfl⟩
  obtain ⟨p, hp⟩ : ∃ p, p = j * n := ⟨_, rfl⟩
  obtain ⟨a, ha⟩ : ∃ a, a = p + q := ⟨_, rfl⟩
  have hpb : p ≤ 100001 * 10000 := by rw [hp]; exact Nat.mul_le_mul (by omega) hn
  have hw1 : IntKind.i64.wrap ((j : Int) * (n : Int)) = (p : Int) := by rw [mulN, ← hp]; exact IntWalk.i64_in _ (by omega)
  have hw2 : IntKind.i64.wrap ((p : Int) + (q : Int)) = (a : Int) := by rw [addN, ← ha]; exact IntWalk.i64_in _ (by omega)
  obtain ⟨vb, vo, vc, rfl, _⟩ := hM.best
  have b0 := hM.box.cell 0
  have b3 := hM.box.cell 3
  have b4 := hM.box.cell 4
  have b5 := hM.box.cell 5
  have b6 := hM.box.cell 6
  have b7 := hM.box.cell 7
  simp only [List.getElem?_toArray, List.getElem?_cons_zero, List.getElem?_cons_succ] at b0 b3 b4 b5 b6 b7
  rw [← hK] at b6
  have d0 : ¬ (N : Int) < (j : Int) := by omega
  have c2 := hM.seenAt hj hq
  rw [← hp, ← ha, hin] at c2
  have hai : (a : Int) < (K : Int) := by have := bit_lt hj hq; omega
  have HM := Lib.hid hM
  clear hM hq hj hin hp ha hK hpb
  go_enter Tryd.func51, Tryd.ntmps51
  go_wp2_with fail
  first | (refine bodyPost_ret (results_none (by rfl) _ _ _) (by rfl) ?_) | (refine bodyPost_end (results_none (by rfl) _ _ _) (by rfl) ?_)
  exact ⟨rfl, V, some cb, B, _, .stop (.inl ⟨by simp, rfl⟩), HM.out, Frm.refl _ _, Nat.le_refl _⟩

set_option maxRecDepth 20000 in
set_option maxHeartbeats 4000000 in
theorem th_op6 {w0 W : World} {g gs : Nat} {PA : Option Addr} {n pcap : Nat} {st cp : Int} {gi N : Nat} {lng : Bool} {L : List MI} {m : List (Int × Nat)} {e0 : Nat} {sx : List UInt8} {lo U : Nat} {V : Lev} {B : List Bool} {bv : Value} {b : Option (List Int)} {q j : Nat} {F : Option Addr} {fc : Nat} {fit : List Int} (HC : ThH w0 g gs PA n pcap st cp gi N lng L (full m e0) (B.count false)) (hM : ThM w0.heap.size W g gs PA n pcap st cp gi N lng B V bv b) (hb0 : Below w0.heap.size w0 W) (hF : FitIn W (Zt g gs) (.slice F fit.length fc) fit) (hfc : (fit.length : Int) = cp) (hq : q < n) (hj : j ≤ N) (hin : inT (V j) (q : Int) = false) (hnd : b = none ∨ lng = true) (hP : PgIn w0 PA n pcap L) (hOK : ∀ x ∈ L, InstOK (n : Int) cp x) (hI : RefAt w0 lo U gi m e0 sx) (hU : U ≤ w0.heap.size) (hN : m.length = N) (hrn : ∀ p ∈ m, 0 ≤ p.1) (hNb : N ≤ 100000) (hn : n ≤ 10000) (hcp : 2 ≤ cp ∧ cp ≤ 1000000) {y : MI} (hy : L[q]? = some y) (hop : y.op = 6) : Calls Tryd.prog 51 #[.pointer (some ⟨g, 0, none⟩), .int .i64 (q : Int), .int .i64 (j : Int), .slice F fit.length fc] W (ThB w0.heap.size g gs PA n pcap st cp gi N lng L (full m e0) V b B (q : Int) j fit W) := by
  obtain ⟨K, hK⟩ : ∃ K, K = (N + 1) * n := ⟨_, rfl⟩
  obtain ⟨p, hp⟩ : ∃ p, p = j * n := ⟨_, rfl⟩
  obtain ⟨a, ha⟩ : ∃ a, a = p + q := ⟨_, rfl⟩
  have hpb : p ≤ 100001 * 10000 := by rw [hp]; exact Nat.mul_le_mul (by omega) hn
  have hw1 : IntKind.i64.wrap ((j : Int) * (n : Int)) = (p : Int) := by rw [mulN, ← hp]; exact IntWalk.i64_in _ (by omega)
  have hw2 : IntKind.i64.wrap ((p : Int) + (q : Int)) = (a : Int) := by rw [addN, ← ha]; exact IntWalk.i64_in _ (by omega)
  have b0 := hM.box.cell 0
  have b3 := hM.box.cell 3
  have b4 := hM.box.cell 4
  have b5 := hM.box.cell 5
  have b6 := hM.box.cell 6
  have b7 := hM.box.cell 7
  simp only [List.getElem?_toArray, List.getElem?_cons_zero, List.getElem?_cons_succ] at b0 b3 b4 b5 b6 b7
  rw [← hK] at b6
  have d0 : ¬ (N : Int) < (j : Int) := by omega
  have c2 := hM.seenAt hj hq
  rw [← hp, ← ha, hin] at c2
  have f2 := hM.seen.frozen a
  have hai : (a : Int) < (K : Int) := by have := bit_lt hj hq; omega
  have hqi : (q : Int) < (n : Int) := by omega
  have hsl := left_set (B := B) (i := j * n + q) (by rw [hM.bits j q hj hq, hin])
  obtain ⟨bA, oA, y', rfl, hbA, hy', hyI, hyc⟩ := hP.at hq
  rw [hy] at hy'
  obtain rfl : y = y' := by injection hy'
  have hM1 := hM.mark hj hq fit
  rw [← hp, ← ha] at hM1
  rw [← hp, ← ha] at hsl
  have hK1 : Frm (Zt g gs) W (W.setCell ⟨gs, a, none⟩ (.bool true)) := (Frm.refl _ _).set (.inl (.inr rfl)) _
  have e0' := hM1.box.cell 0
  simp only [List.getElem?_toArray, List.getElem?_cons_zero] at e0'
  have hW1 : Below w0.heap.size w0 (W.setCell ⟨gs, a, none⟩ (.bool true)) := hb0.trans (hK1.zt hM.bg hM.bs hM.bw)
  obtain ⟨c4, c5, c6, c7, c8⟩ := hyc _ (.of_below hW1 (Nat.le_refl _))
  have hox := hOK y (List.mem_of_getElem? hy)
  unfold InstOK at hox
  have hst := not_stop hnd hj hin
  have HM1 := Lib.hid hM1
  have HK1 := Lib.hid hK1
  have HW1 := Lib.hid hW1
  have HCC := Lib.hid HC
  have HY := Lib.hid hy
  have HST := Lib.hid hst
  have HOP := Lib.hid hop
  have HFI := Lib.hid hF
  have HFC := Lib.hid hfc
  have HQ := Lib.hid hq
  have HJ := Lib.hid hj
  have HRI := Lib.hid hI
  have HUU := Lib.hid hU
  have HYI := Lib.hid hyI
  have HSL := Lib.hid hsl
  have HNN := Lib.hid hN
  have HCP := Lib.hid hcp
  have HNB := Lib.hid hNb
  have HRN := Lib.hid hrn
  have hbv := best_two hnd hM.best
  clear hM hM1 hK1 hW1 HC hy hy' hst hop hF hfc hq hj hI hU hyI hyc hsl hp ha hK hpb hox hOK hin hnd hb0 hP hbA hN hcp hNb hrn
  go_enter Tryd.func51, Tryd.ntmps51
  rcases hbv with ⟨rfl, rfl⟩ | ⟨rfl, cb, rfl, hbf⟩
  · go_upto_region 2 with fail
    clear hw1 hw2
    go_upto_region 3 with fail
    generalize W.setCell ⟨gs, a, none⟩ (.bool true) = W1 at HM1 HK1 HW1 e0' c4 c5 c6 c7 c8 ⊢
    clear b0 b3 b4 b5 b6 b7 c2 f2
    go_upto_region 4 with fail
    have hbx := Blk.new W1 64 #[.int .i64 y.op, .int .i64 y.out, .int .i64 y.arg, .slice y.A y.n y.c, .int .i64 y.at_]
    have g0 := hbx.cell 0
    have g1 := hbx.cell 1
    have g2 := hbx.cell 2
    have g3 := hbx.cell 3
    have g4 := hbx.cell 4
    simp only [List.getElem?_toArray, List.getElem?_cons_zero, List.getElem?_cons_succ] at g0 g1 g2 g3 g4
    have hb12 : Below W1.heap.size W1 (W1.alloc (.cells #[.int .i64 y.op, .int .i64 y.out, .int .i64 y.arg, .slice y.A y.n y.c, .int .i64 y.at_] 64)) := (Below.refl _ _).alloc (Nat.le_refl _) _
    have HM2 := Lib.hid (HM1.out.below hb12)
    have HK2 := Lib.hid (HK1.out.trans (Frm.of_below (S := Zt g gs) hb12) fun _ h => .inl h)
    have HW2 := Lib.hid (HW1.out.trans (hb12.mono HM1.out.bw))
    have HXG := Lib.hid (And.intro (Blk.ne hbx HM2.out.box (by decide)) (Blk.ne hbx HM2.out.seen (by decide)))
    have HBX := Lib.hid hbx
    have b3 := HM2.out.box.cell 3
    have b7 := HM2.out.box.cell 7
    have f7 := HM2.out.box.frozen 7
    simp only [List.getElem?_toArray, List.getElem?_cons_zero, List.getElem?_cons_succ] at b3 b7
    clear hbx hb12 e0' c4 c5 c6 c7 c8 HM1 HK1 HW1
    generalize W1.alloc (.cells #[.int .i64 y.op, .int .i64 y.out, .int .i64 y.arg, .slice y.A y.n y.c, .int .i64 y.at_] 64) = W2 at g0 g1 g2 g3 g4 HM2 HK2 HW2 HBX b3 b7 f7 ⊢
    generalize W1.heap.size = gx at g0 g1 g2 g3 g4 HBX HXG ⊢
    rw [HOP.out] at g0
    go_wp2_with fail
    first | (refine bodyPost_ret (results_none (by rfl) _ _ _) (by rfl) ?_) | (refine bodyPost_end (results_none (by rfl) _ _ _) (by rfl) ?_)
    exact ⟨rfl, (V.add j ((q : Int), fit)), none, (B.set a true), _, .leaf y HST.out HY.out (.inl HOP.out), HM2.out, HK2.out, (by have := HSL.out; omega)⟩
  · obtain ⟨vb, vo, vc, rfl, _, _, hvb, hvz, hvc⟩ := hbf
    go_upto_region 2 with fail
    clear hw1 hw2
    go_upto_region 3 with fail
    generalize W.setCell ⟨gs, a, none⟩ (.bool true) = W1 at HM1 HK1 HW1 e0' c4 c5 c6 c7 c8 ⊢
    clear b0 b3 b4 b5 b6 b7 c2 f2
    go_upto_region 4 with fail
    have hbx := Blk.new W1 64 #[.int .i64 y.op, .int .i64 y.out, .int .i64 y.arg, .slice y.A y.n y.c, .int .i64 y.at_]
    have g0 := hbx.cell 0
    have g1 := hbx.cell 1
    have g2 := hbx.cell 2
    have g3 := hbx.cell 3
    have g4 := hbx.cell 4
    simp only [List.getElem?_toArray, List.getElem?_cons_zero, List.getElem?_cons_succ] at g0 g1 g2 g3 g4
    have hb12 : Below W1.heap.size W1 (W1.alloc (.cells #[.int .i64 y.op, .int .i64 y.out, .int .i64 y.arg, .slice y.A y.n y.c, .int .i64 y.at_] 64)) := (Below.refl _ _).alloc (Nat.le_refl _) _
    have HM2 := Lib.hid (HM1.out.below hb12)
    have HK2 := Lib.hid (HK1.out.trans (Frm.of_below (S := Zt g gs) hb12) fun _ h => .inl h)
    have HW2 := Lib.hid (HW1.out.trans (hb12.mono HM1.out.bw))
    have HXG := Lib.hid (And.intro (Blk.ne hbx HM2.out.box (by decide)) (Blk.ne hbx HM2.out.seen (by decide)))
    have HBX := Lib.hid hbx
    have b3 := HM2.out.box.cell 3
    have b7 := HM2.out.box.cell 7
    have f7 := HM2.out.box.frozen 7
    simp only [List.getElem?_toArray, List.getElem?_cons_zero, List.getElem?_cons_succ] at b3 b7
    clear hbx hb12 e0' c4 c5 c6 c7 c8 HM1 HK1 HW1
    generalize W1.alloc (.cells #[.int .i64 y.op, .int .i64 y.out, .int .i64 y.arg, .slice y.A y.n y.c, .int .i64 y.at_] 64) = W2 at g0 g1 g2 g3 g4 HM2 HK2 HW2 HBX b3 b7 f7 ⊢
    generalize W1.heap.size = gx at g0 g1 g2 g3 g4 HBX HXG ⊢
    rw [HOP.out] at g0
    go_wp2_with fail
    first | (refine bodyPost_ret (results_none (by rfl) _ _ _) (by rfl) ?_) | (refine bodyPost_end (results_none (by rfl) _ _ _) (by rfl) ?_)
    exact ⟨rfl, (V.add j ((q : Int), fit)), (some cb), (B.set a true), _, .leaf y HST.out HY.out (.inl HOP.out), HM2.out, HK2.out, (by have := HSL.out; omega)⟩

set_option maxRecDepth 20000 in
set_option maxHeartbeats 4000000 in
theorem th_op3 {w0 W : World} {g gs : Nat} {PA : Option Addr} {n pcap : Nat} {st cp : Int} {gi N : Nat} {lng : Bool} {L : List MI} {m : List (Int × Nat)} {e0 : Nat} {sx : List UInt8} {lo U : Nat} {V : Lev} {B : List Bool} {bv : Value} {b : Option (List Int)} {q j : Nat} {F : Option Addr} {fc : Nat} {fit : List Int} (HC : ThH w0 g gs PA n pcap st cp gi N lng L (full m e0) (B.count false)) (hM : ThM w0.heap.size W g gs PA n pcap st cp gi N lng B V bv b) (hb0 : Below w0.heap.size w0 W) (hF : FitIn W (Zt g gs) (.slice F fit.length fc) fit) (hfc : (fit.length : Int) = cp) (hq : q < n) (hj : j ≤ N) (hin : inT (V j) (q : Int) = false) (hnd : b = none ∨ lng = true) (hP : PgIn w0 PA n pcap L) (hOK : ∀ x ∈ L, InstOK (n : Int) cp x) (hI : RefAt w0 lo U gi m e0 sx) (hU : U ≤ w0.heap.size) (hN : m.length = N) (hrn : ∀ p ∈ m, 0 ≤ p.1) (hNb : N ≤ 100000) (hn : n ≤ 10000) (hcp : 2 ≤ cp ∧ cp ≤ 1000000) {y : MI} (hy : L[q]? = some y) (hop : y.op = 3) : Calls Tryd.prog 51 #[.pointer (some ⟨g, 0, none⟩), .int .i64 (q : Int), .int .i64 (j : Int), .slice F fit.length fc] W (ThB w0.heap.size g gs PA n pcap st cp gi N lng L (full m e0) V b B (q : Int) j fit W) := by
  obtain ⟨K, hK⟩ : ∃ K, K = (N + 1) * n := ⟨_, rfl⟩
  obtain ⟨p, hp⟩ : ∃ p, p = j * n := ⟨_, rfl⟩
  obtain ⟨a, ha⟩ : ∃ a, a = p + q := ⟨_, rfl⟩
  have hpb : p ≤ 100001 * 10000 := by rw [hp]; exact Nat.mul_le_mul (by omega) hn
  have hw1 : IntKind.i64.wrap ((j : Int) * (n : Int)) = (p : Int) := by rw [mulN, ← hp]; exact IntWalk.i64_in _ (by omega)
  have hw2 : IntKind.i64.wrap ((p : Int) + (q : Int)) = (a : Int) := by rw [addN, ← ha]; exact IntWalk.i64_in _ (by omega)
  have b0 := hM.box.cell 0
  have b3 := hM.box.cell 3
  have b4 := hM.box.cell 4
  have b5 := hM.box.cell 5
  have b6 := hM.box.cell 6
  have b7 := hM.box.cell 7
  simp only [List.getElem?_toArray, List.getElem?_cons_zero, List.getElem?_cons_succ] at b0 b3 b4 b5 b6 b7
  rw [← hK] at b6
  have d0 : ¬ (N : Int) < (j : Int) := by omega
  have c2 := hM.seenAt hj hq
  rw [← hp, ← ha, hin] at c2
  have f2 := hM.seen.frozen a
  have hai : (a : Int) < (K : Int) := by have := bit_lt hj hq; omega
  have hqi : (q : Int) < (n : Int) := by omega
  have hsl := left_set (B := B) (i := j * n + q) (by rw [hM.bits j q hj hq, hin])
  obtain ⟨bA, oA, y', rfl, hbA, hy', hyI, hyc⟩ := hP.at hq
  rw [hy] at hy'
  obtain rfl : y = y' := by injection hy'
  have hM1 := hM.mark hj hq fit
  rw [← hp, ← ha] at hM1
  rw [← hp, ← ha] at hsl
  have hK1 : Frm (Zt g gs) W (W.setCell ⟨gs, a, none⟩ (.bool true)) := (Frm.refl _ _).set (.inl (.inr rfl)) _
  have e0' := hM1.box.cell 0
  simp only [List.getElem?_toArray, List.getElem?_cons_zero] at e0'
  have hW1 : Below w0.heap.size w0 (W.setCell ⟨gs, a, none⟩ (.bool true)) := hb0.trans (hK1.zt hM.bg hM.bs hM.bw)
  obtain ⟨c4, c5, c6, c7, c8⟩ := hyc _ (.of_below hW1 (Nat.le_refl _))
  have hox := hOK y (List.mem_of_getElem? hy)
  unfold InstOK at hox
  have HO : Hid (0 ≤ y.out ∧ y.out < (n : Int)) := Lib.hid (by omega)
  have HAR : Hid (0 ≤ y.arg ∧ y.arg < (n : Int)) := Lib.hid (by omega)
  have hst := not_stop hnd hj hin
  have HM1 := Lib.hid hM1
  have HK1 := Lib.hid hK1
  have HW1 := Lib.hid hW1
  have HCC := Lib.hid HC
  have HY := Lib.hid hy
  have HST := Lib.hid hst
  have HOP := Lib.hid hop
  have HFI := Lib.hid hF
  have HFC := Lib.hid hfc
  have HQ := Lib.hid hq
  have HJ := Lib.hid hj
  have HRI := Lib.hid hI
  have HUU := Lib.hid hU
  have HYI := Lib.hid hyI
  have HSL := Lib.hid hsl
  have HNN := Lib.hid hN
  have HCP := Lib.hid hcp
  have HNB := Lib.hid hNb
  have HRN := Lib.hid hrn
  have hbv := best_two hnd hM.best
  clear hM hM1 hK1 hW1 HC hy hy' hst hop hF hfc hq hj hI hU hyI hyc hsl hp ha hK hpb hox hOK hin hnd hb0 hP hbA hN hcp hNb hrn
  go_enter Tryd.func51, Tryd.ntmps51
  rcases hbv with ⟨rfl, rfl⟩ | ⟨rfl, cb, rfl, hbf⟩
  · go_upto_region 2 with fail
    clear hw1 hw2
    go_upto_region 3 with fail
    generalize W.setCell ⟨gs, a, none⟩ (.bool true) = W1 at HM1 HK1 HW1 e0' c4 c5 c6 c7 c8 ⊢
    clear b0 b3 b4 b5 b6 b7 c2 f2
    go_upto_region 4 with fail
    have hbx := Blk.new W1 64 #[.int .i64 y.op, .int .i64 y.out, .int .i64 y.arg, .slice y.A y.n y.c, .int .i64 y.at_]
    have g0 := hbx.cell 0
    have g1 := hbx.cell 1
    have g2 := hbx.cell 2
    have g3 := hbx.cell 3
    have g4 := hbx.cell 4
    simp only [List.getElem?_toArray, List.getElem?_cons_zero, List.getElem?_cons_succ] at g0 g1 g2 g3 g4
    have hb12 : Below W1.heap.size W1 (W1.alloc (.cells #[.int .i64 y.op, .int .i64 y.out, .int .i64 y.arg, .slice y.A y.n y.c, .int .i64 y.at_] 64)) := (Below.refl _ _).alloc (Nat.le_refl _) _
    have HM2 := Lib.hid (HM1.out.below hb12)
    have HK2 := Lib.hid (HK1.out.trans (Frm.of_below (S := Zt g gs) hb12) fun _ h => .inl h)
    have HW2 := Lib.hid (HW1.out.trans (hb12.mono HM1.out.bw))
    have HXG := Lib.hid (And.intro (Blk.ne hbx HM2.out.box (by decide)) (Blk.ne hbx HM2.out.seen (by decide)))
    have HBX := Lib.hid hbx
    have b3 := HM2.out.box.cell 3
    have b7 := HM2.out.box.cell 7
    have f7 := HM2.out.box.frozen 7
    simp only [List.getElem?_toArray, List.getElem?_cons_zero, List.getElem?_cons_succ] at b3 b7
    clear hbx hb12 e0' c4 c5 c6 c7 c8 HM1 HK1 HW1
    generalize W1.alloc (.cells #[.int .i64 y.op, .int .i64 y.out, .int .i64 y.arg, .slice y.A y.n y.c, .int .i64 y.at_] 64) = W2 at g0 g1 g2 g3 g4 HM2 HK2 HW2 HBX b3 b7 f7 ⊢
    generalize W1.heap.size = gx at g0 g1 g2 g3 g4 HBX HXG ⊢
    rw [HOP.out] at g0
    have hc1 := HCC.out W2 (V.add j ((q : Int), fit)) (B.set a true) _ _ y.out j F fc fit HM2.out HW2.out (HFI.out.frm HK2.out (fun _ h => h) fun _ h => .inl h) HFC.out HO.out.1 HO.out.2 (by have := HJ.out; omega) (by have := HSL.out; omega)
    go_wp2_with fail
    with_reducible refine hc1.mono ?_
    rintro e W3 ⟨rfl, V3, b3', B3, bv3, hd3, hM3, hK3, hle3⟩
    have HD3 := Lib.hid hd3
    have HM3 := Lib.hid hM3
    have HK3 := Lib.hid (HK2.out.trans hK3 fun _ h => .inl h)
    have HW3 := Lib.hid (HW2.out.trans (hK3.zt HM2.out.bg HM2.out.bs HM2.out.bw))
    have HL3 := Lib.hid hle3
    have hbx3 := hK3.blk HBX.out (fun h => h.elim HXG.out.1 HXG.out.2)
    have g2' := hbx3.cell 2
    simp only [List.getElem?_toArray, List.getElem?_cons_zero, List.getElem?_cons_succ] at g2'
    clear hc1 hd3 hM3 hK3 hle3 hbx3 g0 g1 g2 g3 g4 b3 b7 f7
    have hc2 := HCC.out W3 V3 B3 bv3 b3' y.arg j F fc fit HM3.out HW3.out (HFI.out.frm HK3.out (fun _ h => h) fun _ h => .inl h) HFC.out HAR.out.1 HAR.out.2 (by have := HJ.out; omega) (by have := HSL.out; have := HL3.out; omega)
    go_wp2_with fail
    with_reducible refine hc2.mono ?_
    rintro e W4 ⟨rfl, V4, b4', B4, bv4, hd4, hM4, hK4, hle4⟩
    have HF4 := Lib.hid (And.intro hd4 (And.intro hM4 (And.intro hK4 hle4)))
    clear hc2 hd4 hM4 hK4 hle4
    go_wp2_with fail
    first | (refine bodyPost_ret (results_none (by rfl) _ _ _) (by rfl) ?_) | (refine bodyPost_end (results_none (by rfl) _ _ _) (by rfl) ?_)
    exact ⟨rfl, V4, b4', B4, bv4, .two y HST.out HY.out HOP.out HD3.out HF4.out.1, HF4.out.2.1, HK3.out.trans HF4.out.2.2.1 fun _ h => .inl h, by have h1 := HF4.out.2.2.2; have h2 := HL3.out; have h3 := HSL.out; omega⟩
  · obtain ⟨vb, vo, vc, rfl, _, _, hvb, hvz, hvc⟩ := hbf
    go_upto_region 2 with fail
    clear hw1 hw2
    go_upto_region 3 with fail
    generalize W.setCell ⟨gs, a, none⟩ (.bool true) = W1 at HM1 HK1 HW1 e0' c4 c5 c6 c7 c8 ⊢
    clear b0 b3 b4 b5 b6 b7 c2 f2
    go_upto_region 4 with fail
    have hbx := Blk.new W1 64 #[.int .i64 y.op, .int .i64 y.out, .int .i64 y.arg, .slice y.A y.n y.c, .int .i64 y.at_]
    have g0 := hbx.cell 0
    have g1 := hbx.cell 1
    have g2 := hbx.cell 2
    have g3 := hbx.cell 3
    have g4 := hbx.cell 4
    simp only [List.getElem?_toArray, List.getElem?_cons_zero, List.getElem?_cons_succ] at g0 g1 g2 g3 g4
    have hb12 : Below W1.heap.size W1 (W1.alloc (.cells #[.int .i64 y.op, .int .i64 y.out, .int .i64 y.arg, .slice y.A y.n y.c, .int .i64 y.at_] 64)) := (Below.refl _ _).alloc (Nat.le_refl _) _
    have HM2 := Lib.hid (HM1.out.below hb12)
    have HK2 := Lib.hid (HK1.out.trans (Frm.of_below (S := Zt g gs) hb12) fun _ h => .inl h)
    have HW2 := Lib.hid (HW1.out.trans (hb12.mono HM1.out.bw))
    have HXG := Lib.hid (And.intro (Blk.ne hbx HM2.out.box (by decide)) (Blk.ne hbx HM2.out.seen (by decide)))
    have HBX := Lib.hid hbx
    have b3 := HM2.out.box.cell 3
    have b7 := HM2.out.box.cell 7
    have f7 := HM2.out.box.frozen 7
    simp only [List.getElem?_toArray, List.getElem?_cons_zero, List.getElem?_cons_succ] at b3 b7
    clear hbx hb12 e0' c4 c5 c6 c7 c8 HM1 HK1 HW1
    generalize W1.alloc (.cells #[.int .i64 y.op, .int .i64 y.out, .int .i64 y.arg, .slice y.A y.n y.c, .int .i64 y.at_] 64) = W2 at g0 g1 g2 g3 g4 HM2 HK2 HW2 HBX b3 b7 f7 ⊢
    generalize W1.heap.size = gx at g0 g1 g2 g3 g4 HBX HXG ⊢
    rw [HOP.out] at g0
    have hc1 := HCC.out W2 (V.add j ((q : Int), fit)) (B.set a true) _ _ y.out j F fc fit HM2.out HW2.out (HFI.out.frm HK2.out (fun _ h => h) fun _ h => .inl h) HFC.out HO.out.1 HO.out.2 (by have := HJ.out; omega) (by have := HSL.out; omega)
    go_wp2_with fail
    with_reducible refine hc1.mono ?_
    rintro e W3 ⟨rfl, V3, b3', B3, bv3, hd3, hM3, hK3, hle3⟩
    have HD3 := Lib.hid hd3
    have HM3 := Lib.hid hM3
    have HK3 := Lib.hid (HK2.out.trans hK3 fun _ h => .inl h)
    have HW3 := Lib.hid (HW2.out.trans (hK3.zt HM2.out.bg HM2.out.bs HM2.out.bw))
    have HL3 := Lib.hid hle3
    have hbx3 := hK3.blk HBX.out (fun h => h.elim HXG.out.1 HXG.out.2)
    have g2' := hbx3.cell 2
    simp only [List.getElem?_toArray, List.getElem?_cons_zero, List.getElem?_cons_succ] at g2'
    clear hc1 hd3 hM3 hK3 hle3 hbx3 g0 g1 g2 g3 g4 b3 b7 f7
    have hc2 := HCC.out W3 V3 B3 bv3 b3' y.arg j F fc fit HM3.out HW3.out (HFI.out.frm HK3.out (fun _ h => h) fun _ h => .inl h) HFC.out HAR.out.1 HAR.out.2 (by have := HJ.out; omega) (by have := HSL.out; have := HL3.out; omega)
    go_wp2_with fail
    with_reducible refine hc2.mono ?_
    rintro e W4 ⟨rfl, V4, b4', B4, bv4, hd4, hM4, hK4, hle4⟩
    have HF4 := Lib.hid (And.intro hd4 (And.intro hM4 (And.intro hK4 hle4)))
    clear hc2 hd4 hM4 hK4 hle4
    go_wp2_with fail
    first | (refine bodyPost_ret (results_none (by rfl) _ _ _) (by rfl) ?_) | (refine bodyPost_end (results_none (by rfl) _ _ _) (by rfl) ?_)
    exact ⟨rfl, V4, b4', B4, bv4, .two y HST.out HY.out HOP.out HD3.out HF4.out.1, HF4.out.2.1, HK3.out.trans HF4.out.2.2.1 fun _ h => .inl h, by have h1 := HF4.out.2.2.2; have h2 := HL3.out; have h3 := HSL.out; omega⟩

set_option maxRecDepth 20000 in
set_option maxHeartbeats 4000000 in
theorem th_op2t {w0 W : World} {g gs : Nat} {PA : Option Addr} {n pcap : Nat} {st cp : Int} {gi N : Nat} {lng : Bool} {L : List MI} {m : List (Int × Nat)} {e0 : Nat} {sx : List UInt8} {lo U : Nat} {V : Lev} {B : List Bool} {bv : Value} {b : Option (List Int)} {q j : Nat} {F : Option Addr} {fc : Nat} {fit : List Int} (HC : ThH w0 g gs PA n pcap st cp gi N lng L (full m e0) (B.count false)) (hM : ThM w0.heap.size W g gs PA n pcap st cp gi N lng B V bv b) (hb0 : Below w0.heap.size w0 W) (hF : FitIn W (Zt g gs) (.slice F fit.length fc) fit) (hfc : (fit.length : Int) = cp) (hq : q < n) (hj : j ≤ N) (hin : inT (V j) (q : Int) = false) (hnd : b = none ∨ lng = true) (hP : PgIn w0 PA n pcap L) (hOK : ∀ x ∈ L, InstOK (n : Int) cp x) (hI : RefAt w0 lo U gi m e0 sx) (hU : U ≤ w0.heap.size) (hN : m.length = N) (hrn : ∀ p ∈ m, 0 ≤ p.1) (hNb : N ≤ 100000) (hn : n ≤ 10000) (hcp : 2 ≤ cp ∧ cp ≤ 1000000) {y : MI} (hy : L[q]? = some y) (hop : y.op = 2) (hT : RP (full m e0) j y = true) : Calls Tryd.prog 51 #[.pointer (some ⟨g, 0, none⟩), .int .i64 (q : Int), .int .i64 (j : Int), .slice F fit.length fc] W (ThB w0.heap.size g gs PA n pcap st cp gi N lng L (full m e0) V b B (q : Int) j fit W) := by
  obtain ⟨K, hK⟩ : ∃ K, K = (N + 1) * n := ⟨_, rfl⟩
  obtain ⟨p, hp⟩ : ∃ p, p = j * n := ⟨_, rfl⟩
  obtain ⟨a, ha⟩ : ∃ a, a = p + q := ⟨_, rfl⟩
  have hpb : p ≤ 100001 * 10000 := by rw [hp]; exact Nat.mul_le_mul (by omega) hn
  have hw1 : IntKind.i64.wrap ((j : Int) * (n : Int)) = (p : Int) := by rw [mulN, ← hp]; exact IntWalk.i64_in _ (by omega)
  have hw2 : IntKind.i64.wrap ((p : Int) + (q : Int)) = (a : Int) := by rw [addN, ← ha]; exact IntWalk.i64_in _ (by omega)
  have b0 := hM.box.cell 0
  have b3 := hM.box.cell 3
  have b4 := hM.box.cell 4
  have b5 := hM.box.cell 5
  have b6 := hM.box.cell 6
  have b7 := hM.box.cell 7
  simp only [List.getElem?_toArray, List.getElem?_cons_zero, List.getElem?_cons_succ] at b0 b3 b4 b5 b6 b7
  rw [← hK] at b6
  have d0 : ¬ (N : Int) < (j : Int) := by omega
  have c2 := hM.seenAt hj hq
  rw [← hp, ← ha, hin] at c2
  have f2 := hM.seen.frozen a
  have hai : (a : Int) < (K : Int) := by have := bit_lt hj hq; omega
  have hqi : (q : Int) < (n : Int) := by omega
  have hsl := left_set (B := B) (i := j * n + q) (by rw [hM.bits j q hj hq, hin])
  obtain ⟨bA, oA, y', rfl, hbA, hy', hyI, hyc⟩ := hP.at hq
  rw [hy] at hy'
  obtain rfl : y = y' := by injection hy'
  have hM1 := hM.mark hj hq fit
  rw [← hp, ← ha] at hM1
  rw [← hp, ← ha] at hsl
  have hK1 : Frm (Zt g gs) W (W.setCell ⟨gs, a, none⟩ (.bool true)) := (Frm.refl _ _).set (.inl (.inr rfl)) _
  have e0' := hM1.box.cell 0
  simp only [List.getElem?_toArray, List.getElem?_cons_zero] at e0'
  have hW1 : Below w0.heap.size w0 (W.setCell ⟨gs, a, none⟩ (.bool true)) := hb0.trans (hK1.zt hM.bg hM.bs hM.bw)
  obtain ⟨c4, c5, c6, c7, c8⟩ := hyc _ (.of_below hW1 (Nat.le_refl _))
  have hox := hOK y (List.mem_of_getElem? hy)
  unfold InstOK at hox
  have HO : Hid (0 ≤ y.out ∧ y.out < (n : Int)) := Lib.hid (by omega)
  have hst := not_stop hnd hj hin
  have HM1 := Lib.hid hM1
  have HK1 := Lib.hid hK1
  have HW1 := Lib.hid hW1
  have HCC := Lib.hid HC
  have HY := Lib.hid hy
  have HST := Lib.hid hst
  have HOP := Lib.hid hop
  have HFI := Lib.hid hF
  have HFC := Lib.hid hfc
  have HQ := Lib.hid hq
  have HJ := Lib.hid hj
  have HRI := Lib.hid hI
  have HUU := Lib.hid hU
  have HYI := Lib.hid hyI
  have HSL := Lib.hid hsl
  have HNN := Lib.hid hN
  have HCP := Lib.hid hcp
  have HNB := Lib.hid hNb
  have HRN := Lib.hid hrn
  have HTQ := Lib.hid hT
  have hbv := best_two hnd hM.best
  clear hM hM1 hK1 hW1 HC hy hy' hst hop hF hfc hq hj hI hU hyI hyc hsl hp ha hK hpb hox hOK hin hnd hb0 hP hbA hN hcp hNb hrn hT
  go_enter Tryd.func51, Tryd.ntmps51
  rcases hbv with ⟨rfl, rfl⟩ | ⟨rfl, cb, rfl, hbf⟩
  · go_upto_region 2 with fail
    clear hw1 hw2
    go_upto_region 3 with fail
    generalize W.setCell ⟨gs, a, none⟩ (.bool true) = W1 at HM1 HK1 HW1 e0' c4 c5 c6 c7 c8 ⊢
    clear b0 b3 b4 b5 b6 b7 c2 f2
    go_upto_region 4 with fail
    have hbx := Blk.new W1 64 #[.int .i64 y.op, .int .i64 y.out, .int .i64 y.arg, .slice y.A y.n y.c, .int .i64 y.at_]
    have g0 := hbx.cell 0
    have g1 := hbx.cell 1
    have g2 := hbx.cell 2
    have g3 := hbx.cell 3
    have g4 := hbx.cell 4
    simp only [List.getElem?_toArray, List.getElem?_cons_zero, List.getElem?_cons_succ] at g0 g1 g2 g3 g4
    have hb12 : Below W1.heap.size W1 (W1.alloc (.cells #[.int .i64 y.op, .int .i64 y.out, .int .i64 y.arg, .slice y.A y.n y.c, .int .i64 y.at_] 64)) := (Below.refl _ _).alloc (Nat.le_refl _) _
    have HM2 := Lib.hid (HM1.out.below hb12)
    have HK2 := Lib.hid (HK1.out.trans (Frm.of_below (S := Zt g gs) hb12) fun _ h => .inl h)
    have HW2 := Lib.hid (HW1.out.trans (hb12.mono HM1.out.bw))
    have HXG := Lib.hid (And.intro (Blk.ne hbx HM2.out.box (by decide)) (Blk.ne hbx HM2.out.seen (by decide)))
    have HBX := Lib.hid hbx
    have b3 := HM2.out.box.cell 3
    have b7 := HM2.out.box.cell 7
    have f7 := HM2.out.box.frozen 7
    simp only [List.getElem?_toArray, List.getElem?_cons_zero, List.getElem?_cons_succ] at b3 b7
    clear hbx hb12 e0' c4 c5 c6 c7 c8 HM1 HK1 HW1
    generalize W1.alloc (.cells #[.int .i64 y.op, .int .i64 y.out, .int .i64 y.arg, .slice y.A y.n y.c, .int .i64 y.at_] 64) = W2 at g0 g1 g2 g3 g4 HM2 HK2 HW2 HBX b3 b7 f7 ⊢
    generalize W1.heap.size = gx at g0 g1 g2 g3 g4 HBX HXG ⊢
    rw [HOP.out] at g0
    have hRu := fun d => (refRune_any ((HRI.out.same (.of_below HW2.out HUU.out)).drewN d) (j : Int)).mono fun _ _ ⟨a, b⟩ => (⟨a, b.symm⟩ : _ ∧ _)
    have hHa := fun d => (refHas_any ((HYI.out.below HW2.out).drewN d) (runeAt (full m e0) (j : Int))).mono fun _ _ ⟨a, b⟩ => (⟨a, b.symm⟩ : _ ∧ _)
    have hTQ := HTQ.out
    rw [rp_eq HNN.out HJ.out] at hTQ
    rw [hTQ] at hHa
    clear hTQ
    go_upto_region 10 with fail
    go_quiet (first | (go_at_call 62; exact Calls.quiet_of_same (hRu _)) | (go_at_call 61; exact Calls.quiet_of_same (hHa _)))
    clear hRu hHa
    have hbq : Below W2.heap.size W2 (W2.drewN nq) := (Below.refl _ _).drewN
    have HM3 := Lib.hid (HM2.out.below hbq)
    have HK3 := Lib.hid (HK2.out.trans (Frm.of_below (S := Zt g gs) hbq) fun _ h => .inl h)
    have HW3 := Lib.hid (HW2.out.trans (hbq.mono HM2.out.bw))
    have g1' := (HBX.out.drewN nq).cell 1
    simp only [List.getElem?_toArray, List.getElem?_cons_zero, List.getElem?_cons_succ] at g1'
    clear hbq
    have hw3 : IntKind.i64.wrap ((j : Int) + 1) = (j : Int) + 1 := IntWalk.i64_in _ (by have := HJ.out; have := HNB.out; omega)
    have hc1 := HCC.out (W2.drewN nq) (V.add j ((q : Int), fit)) (B.set a true) _ _ y.out (j + 1) F fc (fit) HM3.out HW3.out (HFI.out.frm HK3.out (fun _ h => h) fun _ h => .inl h) HFC.out HO.out.1 HO.out.2 (by have := HJ.out; omega) (by have := HSL.out; omega)
    rw [show ((j + 1 : Nat) : Int) = (j : Int) + 1 by omega] at hc1
    go_wp2_with fail
    with_reducible refine hc1.mono ?_
    rintro e W8 ⟨rfl, V8, b8, B8, bv8, hd8, hM8, hK8, hle8⟩
    have HF8 := Lib.hid (And.intro hd8 (And.intro hM8 (And.intro hK8 hle8)))
    clear hc1 hd8 hM8 hK8 hle8
    go_wp2_with fail
    first | (refine bodyPost_ret (results_none (by rfl) _ _ _) (by rfl) ?_) | (refine bodyPost_end (results_none (by rfl) _ _ _) (by rfl) ?_)
    exact ⟨rfl, V8, b8, B8, bv8, .read y HST.out HY.out HOP.out HTQ.out HF8.out.1, HF8.out.2.1, HK3.out.trans HF8.out.2.2.1 fun _ h => .inl h, by have h1 := HF8.out.2.2.2; have h3 := HSL.out; omega⟩
  · obtain ⟨vb, vo, vc, rfl, _, _, hvb, hvz, hvc⟩ := hbf
    go_upto_region 2 with fail
    clear hw1 hw2
    go_upto_region 3 with fail
    generalize W.setCell ⟨gs, a, none⟩ (.bool true) = W1 at HM1 HK1 HW1 e0' c4 c5 c6 c7 c8 ⊢
    clear b0 b3 b4 b5 b6 b7 c2 f2
    go_upto_region 4 with fail
    have hbx := Blk.new W1 64 #[.int .i64 y.op, .int .i64 y.out, .int .i64 y.arg, .slice y.A y.n y.c, .int .i64 y.at_]
    have g0 := hbx.cell 0
    have g1 := hbx.cell 1
    have g2 := hbx.cell 2
    have g3 := hbx.cell 3
    have g4 := hbx.cell 4
    simp only [List.getElem?_toArray, List.getElem?_cons_zero, List.getElem?_cons_succ] at g0 g1 g2 g3 g4
    have hb12 : Below W1.heap.size W1 (W1.alloc (.cells #[.int .i64 y.op, .int .i64 y.out, .int .i64 y.arg, .slice y.A y.n y.c, .int .i64 y.at_] 64)) := (Below.refl _ _).alloc (Nat.le_refl _) _
    have HM2 := Lib.hid (HM1.out.below hb12)
    have HK2 := Lib.hid (HK1.out.trans (Frm.of_below (S := Zt g gs) hb12) fun _ h => .inl h)
    have HW2 := Lib.hid (HW1.out.trans (hb12.mono HM1.out.bw))
    have HXG := Lib.hid (And.intro (Blk.ne hbx HM2.out.box (by decide)) (Blk.ne hbx HM2.out.seen (by decide)))
    have HBX := Lib.hid hbx
    have b3 := HM2.out.box.cell 3
    have b7 := HM2.out.box.cell 7
    have f7 := HM2.out.box.frozen 7
    simp only [List.getElem?_toArray, List.getElem?_cons_zero, List.getElem?_cons_succ] at b3 b7
    clear hbx hb12 e0' c4 c5 c6 c7 c8 HM1 HK1 HW1
    generalize W1.alloc (.cells #[.int .i64 y.op, .int .i64 y.out, .int .i64 y.arg, .slice y.A y.n y.c, .int .i64 y.at_] 64) = W2 at g0 g1 g2 g3 g4 HM2 HK2 HW2 HBX b3 b7 f7 ⊢
    generalize W1.heap.size = gx at g0 g1 g2 g3 g4 HBX HXG ⊢
    rw [HOP.out] at g0
    have hRu := fun d => (refRune_any ((HRI.out.same (.of_below HW2.out HUU.out)).drewN d) (j : Int)).mono fun _ _ ⟨a, b⟩ => (⟨a, b.symm⟩ : _ ∧ _)
    have hHa := fun d => (refHas_any ((HYI.out.below HW2.out).drewN d) (runeAt (full m e0) (j : Int))).mono fun _ _ ⟨a, b⟩ => (⟨a, b.symm⟩ : _ ∧ _)
    have hTQ := HTQ.out
    rw [rp_eq HNN.out HJ.out] at hTQ
    rw [hTQ] at hHa
    clear hTQ
    go_upto_region 10 with fail
    go_quiet (first | (go_at_call 62; exact Calls.quiet_of_same (hRu _)) | (go_at_call 61; exact Calls.quiet_of_same (hHa _)))
    clear hRu hHa
    have hbq : Below W2.heap.size W2 (W2.drewN nq) := (Below.refl _ _).drewN
    have HM3 := Lib.hid (HM2.out.below hbq)
    have HK3 := Lib.hid (HK2.out.trans (Frm.of_below (S := Zt g gs) hbq) fun _ h => .inl h)
    have HW3 := Lib.hid (HW2.out.trans (hbq.mono HM2.out.bw))
    have g1' := (HBX.out.drewN nq).cell 1
    simp only [List.getElem?_toArray, List.getElem?_cons_zero, List.getElem?_cons_succ] at g1'
    clear hbq
    have hw3 : IntKind.i64.wrap ((j : Int) + 1) = (j : Int) + 1 := IntWalk.i64_in _ (by have := HJ.out; have := HNB.out; omega)
    have hc1 := HCC.out (W2.drewN nq) (V.add j ((q : Int), fit)) (B.set a true) _ _ y.out (j + 1) F fc (fit) HM3.out HW3.out (HFI.out.frm HK3.out (fun _ h => h) fun _ h => .inl h) HFC.out HO.out.1 HO.out.2 (by have := HJ.out; omega) (by have := HSL.out; omega)
    rw [show ((j + 1 : Nat) : Int) = (j : Int) + 1 by omega] at hc1
    go_wp2_with fail
    with_reducible refine hc1.mono ?_
    rintro e W8 ⟨rfl, V8, b8, B8, bv8, hd8, hM8, hK8, hle8⟩
    have HF8 := Lib.hid (And.intro hd8 (And.intro hM8 (And.intro hK8 hle8)))
    clear hc1 hd8 hM8 hK8 hle8
    go_wp2_with fail
    first | (refine bodyPost_ret (results_none (by rfl) _ _ _) (by rfl) ?_) | (refine bodyPost_end (results_none (by rfl) _ _ _) (by rfl) ?_)
    exact ⟨rfl, V8, b8, B8, bv8, .read y HST.out HY.out HOP.out HTQ.out HF8.out.1, HF8.out.2.1, HK3.out.trans HF8.out.2.2.1 fun _ h => .inl h, by have h1 := HF8.out.2.2.2; have h3 := HSL.out; omega⟩

set_option maxRecDepth 20000 in
set_option maxHeartbeats 4000000 in
theorem th_op2f {w0 W : World} {g gs : Nat} {PA : Option Addr} {n pcap : Nat} {st cp : Int} {gi N : Nat} {lng : Bool} {L : List MI} {m : List (Int × Nat)} {e0 : Nat} {sx : List UInt8} {lo U : Nat} {V : Lev} {B : List Bool} {bv : Value} {b : Option (List Int)} {q j : Nat} {F : Option Addr} {fc : Nat} {fit : List Int} (HC : ThH w0 g gs PA n pcap st cp gi N lng L (full m e0) (B.count false)) (hM : ThM w0.heap.size W g gs PA n pcap st cp gi N lng B V bv b) (hb0 : Below w0.heap.size w0 W) (hF : FitIn W (Zt g gs) (.slice F fit.length fc) fit) (hfc : (fit.length : Int) = cp) (hq : q < n) (hj : j ≤ N) (hin : inT (V j) (q : Int) = false) (hnd : b = none ∨ lng = true) (hP : PgIn w0 PA n pcap L) (hOK : ∀ x ∈ L, InstOK (n : Int) cp x) (hI : RefAt w0 lo U gi m e0 sx) (hU : U ≤ w0.heap.size) (hN : m.length = N) (hrn : ∀ p ∈ m, 0 ≤ p.1) (hNb : N ≤ 100000) (hn : n ≤ 10000) (hcp : 2 ≤ cp ∧ cp ≤ 1000000) {y : MI} (hy : L[q]? = some y) (hop : y.op = 2) (hT : RP (full m e0) j y = false) : Calls Tryd.prog 51 #[.pointer (some ⟨g, 0, none⟩), .int .i64 (q : Int), .int .i64 (j : Int), .slice F fit.length fc] W (ThB w0.heap.size g gs PA n pcap st cp gi N lng L (full m e0) V b B (q : Int) j fit W) := by
  obtain ⟨K, hK⟩ : ∃ K, K = (N + 1) * n := ⟨_, rfl⟩
  obtain ⟨p, hp⟩ : ∃ p, p = j * n := ⟨_, rfl⟩
  obtain ⟨a, ha⟩ : ∃ a, a = p + q := ⟨_, rfl⟩
  have hpb : p ≤ 100001 * 10000 := by rw [hp]; exact Nat.mul_le_mul (by omega) hn
  have hw1 : IntKind.i64.wrap ((j : Int) * (n : Int)) = (p : Int) := by rw [mulN, ← hp]; exact IntWalk.i64_in _ (by omega)
  have hw2 : IntKind.i64.wrap ((p : Int) + (q : Int)) = (a : Int) := by rw [addN, ← ha]; exact IntWalk.i64_in _ (by omega)
  have b0 := hM.box.cell 0
  have b3 := hM.box.cell 3
  have b4 := hM.box.cell 4
  have b5 := hM.box.cell 5
  have b6 := hM.box.cell 6
  have b7 := hM.box.cell 7
  simp only [List.getElem?_toArray, List.getElem?_cons_zero, List.getElem?_cons_succ] at b0 b3 b4 b5 b6 b7
  rw [← hK] at b6
  have d0 : ¬ (N : Int) < (j : Int) := by omega
  have c2 := hM.seenAt hj hq
  rw [← hp, ← ha, hin] at c2
  have f2 := hM.seen.frozen a
  have hai : (a : Int) < (K : Int) := by have := bit_lt hj hq; omega
  have hqi : (q : Int) < (n : Int) := by omega
  have hsl := left_set (B := B) (i := j * n + q) (by rw [hM.bits j q hj hq, hin])
  obtain ⟨bA, oA, y', rfl, hbA, hy', hyI, hyc⟩ := hP.at hq
  rw [hy] at hy'
  obtain rfl : y = y' := by injection hy'
  have hM1 := hM.mark hj hq fit
  rw [← hp, ← ha] at hM1
  rw [← hp, ← ha] at hsl
  have hK1 : Frm (Zt g gs) W (W.setCell ⟨gs, a, none⟩ (.bool true)) := (Frm.refl _ _).set (.inl (.inr rfl)) _
  have e0' := hM1.box.cell 0
  simp only [List.getElem?_toArray, List.getElem?_cons_zero] at e0'
  have hW1 : Below w0.heap.size w0 (W.setCell ⟨gs, a, none⟩ (.bool true)) := hb0.trans (hK1.zt hM.bg hM.bs hM.bw)
  obtain ⟨c4, c5, c6, c7, c8⟩ := hyc _ (.of_below hW1 (Nat.le_refl _))
  have hox := hOK y (List.mem_of_getElem? hy)
  unfold InstOK at hox
  have HO : Hid (0 ≤ y.out ∧ y.out < (n : Int)) := Lib.hid (by omega)
  have hst := not_stop hnd hj hin
  have HM1 := Lib.hid hM1
  have HK1 := Lib.hid hK1
  have HW1 := Lib.hid hW1
  have HCC := Lib.hid HC
  have HY := Lib.hid hy
  have HST := Lib.hid hst
  have HOP := Lib.hid hop
  have HFI := Lib.hid hF
  have HFC := Lib.hid hfc
  have HQ := Lib.hid hq
  have HJ := Lib.hid hj
  have HRI := Lib.hid hI
  have HUU := Lib.hid hU
  have HYI := Lib.hid hyI
  have HSL := Lib.hid hsl
  have HNN := Lib.hid hN
  have HCP := Lib.hid hcp
  have HNB := Lib.hid hNb
  have HRN := Lib.hid hrn
  have HTQ := Lib.hid hT
  have hbv := best_two hnd hM.best
  clear hM hM1 hK1 hW1 HC hy hy' hst hop hF hfc hq hj hI hU hyI hyc hsl hp ha hK hpb hox hOK hin hnd hb0 hP hbA hN hcp hNb hrn hT
  go_enter Tryd.func51, Tryd.ntmps51
  rcases hbv with ⟨rfl, rfl⟩ | ⟨rfl, cb, rfl, hbf⟩
  · go_upto_region 2 with fail
    clear hw1 hw2
    go_upto_region 3 with fail
    generalize W.setCell ⟨gs, a, none⟩ (.bool true) = W1 at HM1 HK1 HW1 e0' c4 c5 c6 c7 c8 ⊢
    clear b0 b3 b4 b5 b6 b7 c2 f2
    go_upto_region 4 with fail
    have hbx := Blk.new W1 64 #[.int .i64 y.op, .int .i64 y.out, .int .i64 y.arg, .slice y.A y.n y.c, .int .i64 y.at_]
    have g0 := hbx.cell 0
    have g1 := hbx.cell 1
    have g2 := hbx.cell 2
    have g3 := hbx.cell 3
    have g4 := hbx.cell 4
    simp only [List.getElem?_toArray, List.getElem?_cons_zero, List.getElem?_cons_succ] at g0 g1 g2 g3 g4
    have hb12 : Below W1.heap.size W1 (W1.alloc (.cells #[.int .i64 y.op, .int .i64 y.out, .int .i64 y.arg, .slice y.A y.n y.c, .int .i64 y.at_] 64)) := (Below.refl _ _).alloc (Nat.le_refl _) _
    have HM2 := Lib.hid (HM1.out.below hb12)
    have HK2 := Lib.hid (HK1.out.trans (Frm.of_below (S := Zt g gs) hb12) fun _ h => .inl h)
    have HW2 := Lib.hid (HW1.out.trans (hb12.mono HM1.out.bw))
    have HXG := Lib.hid (And.intro (Blk.ne hbx HM2.out.box (by decide)) (Blk.ne hbx HM2.out.seen (by decide)))
    have HBX := Lib.hid hbx
    have b3 := HM2.out.box.cell 3
    have b7 := HM2.out.box.cell 7
    have f7 := HM2.out.box.frozen 7
    simp only [List.getElem?_toArray, List.getElem?_cons_zero, List.getElem?_cons_succ] at b3 b7
    clear hbx hb12 e0' c4 c5 c6 c7 c8 HM1 HK1 HW1
    generalize W1.alloc (.cells #[.int .i64 y.op, .int .i64 y.out, .int .i64 y.arg, .slice y.A y.n y.c, .int .i64 y.at_] 64) = W2 at g0 g1 g2 g3 g4 HM2 HK2 HW2 HBX b3 b7 f7 ⊢
    generalize W1.heap.size = gx at g0 g1 g2 g3 g4 HBX HXG ⊢
    rw [HOP.out] at g0
    have hRu := fun d => (refRune_any ((HRI.out.same (.of_below HW2.out HUU.out)).drewN d) (j : Int)).mono fun _ _ ⟨a, b⟩ => (⟨a, b.symm⟩ : _ ∧ _)
    have hHa := fun d => (refHas_any ((HYI.out.below HW2.out).drewN d) (runeAt (full m e0) (j : Int))).mono fun _ _ ⟨a, b⟩ => (⟨a, b.symm⟩ : _ ∧ _)
    have hTQ := HTQ.out
    rw [rp_eq HNN.out HJ.out] at hTQ
    rw [hTQ] at hHa
    clear hTQ
    go_upto_region 10 with fail
    go_quiet (first | (go_at_call 62; exact Calls.quiet_of_same (hRu _)) | (go_at_call 61; exact Calls.quiet_of_same (hHa _)))
    clear hRu hHa
    have hbq : Below W2.heap.size W2 (W2.drewN nq) := (Below.refl _ _).drewN
    have HM3 := Lib.hid (HM2.out.below hbq)
    have HK3 := Lib.hid (HK2.out.trans (Frm.of_below (S := Zt g gs) hbq) fun _ h => .inl h)
    have HW3 := Lib.hid (HW2.out.trans (hbq.mono HM2.out.bw))
    have g1' := (HBX.out.drewN nq).cell 1
    simp only [List.getElem?_toArray, List.getElem?_cons_zero, List.getElem?_cons_succ] at g1'
    clear hbq
    go_wp2_with fail
    first | (refine bodyPost_ret (results_none (by rfl) _ _ _) (by rfl) ?_) | (refine bodyPost_end (results_none (by rfl) _ _ _) (by rfl) ?_)
    exact ⟨rfl, (V.add j ((q : Int), fit)), none, (B.set a true), _, .leaf y HST.out HY.out (.inr (.inl ⟨HOP.out, HTQ.out⟩)), HM3.out, HK3.out, (by have := HSL.out; omega)⟩
  · obtain ⟨vb, vo, vc, rfl, _, _, hvb, hvz, hvc⟩ := hbf
    go_upto_region 2 with fail
    clear hw1 hw2
    go_upto_region 3 with fail
    generalize W.setCell ⟨gs, a, none⟩ (.bool true) = W1 at HM1 HK1 HW1 e0' c4 c5 c6 c7 c8 ⊢
    clear b0 b3 b4 b5 b6 b7 c2 f2
    go_upto_region 4 with fail
    have hbx := Blk.new W1 64 #[.int .i64 y.op, .int .i64 y.out, .int .i64 y.arg, .slice y.A y.n y.c, .int .i64 y.at_]
    have g0 := hbx.cell 0
    have g1 := hbx.cell 1
    have g2 := hbx.cell 2
    have g3 := hbx.cell 3
    have g4 := hbx.cell 4
    simp only [List.getElem?_toArray, List.getElem?_cons_zero, List.getElem?_cons_succ] at g0 g1 g2 g3 g4
    have hb12 : Below W1.heap.size W1 (W1.alloc (.cells #[.int .i64 y.op, .int .i64 y.out, .int .i64 y.arg, .slice y.A y.n y.c, .int .i64 y.at_] 64)) := (Below.refl _ _).alloc (Nat.le_refl _) _
    have HM2 := Lib.hid (HM1.out.below hb12)
    have HK2 := Lib.hid (HK1.out.trans (Frm.of_below (S := Zt g gs) hb12) fun _ h => .inl h)
    have HW2 := Lib.hid (HW1.out.trans (hb12.mono HM1.out.bw))
    have HXG := Lib.hid (And.intro (Blk.ne hbx HM2.out.box (by decide)) (Blk.ne hbx HM2.out.seen (by decide)))
    have HBX := Lib.hid hbx
    have b3 := HM2.out.box.cell 3
    have b7 := HM2.out.box.cell 7
    have f7 := HM2.out.box.frozen 7
    simp only [List.getElem?_toArray, List.getElem?_cons_zero, List.getElem?_cons_succ] at b3 b7
    clear hbx hb12 e0' c4 c5 c6 c7 c8 HM1 HK1 HW1
    generalize W1.alloc (.cells #[.int .i64 y.op, .int .i64 y.out, .int .i64 y.arg, .slice y.A y.n y.c, .int .i64 y.at_] 64) = W2 at g0 g1 g2 g3 g4 HM2 HK2 HW2 HBX b3 b7 f7 ⊢
    generalize W1.heap.size = gx at g0 g1 g2 g3 g4 HBX HXG ⊢
    rw [HOP.out] at g0
    have hRu := fun d => (refRune_any ((HRI.out.same (.of_below HW2.out HUU.out)).drewN d) (j : Int)).mono fun _ _ ⟨a, b⟩ => (⟨a, b.symm⟩ : _ ∧ _)
    have hHa := fun d => (refHas_any ((HYI.out.below HW2.out).drewN d) (runeAt (full m e0) (j : Int))).mono fun _ _ ⟨a, b⟩ => (⟨a, b.symm⟩ : _ ∧ _)
    have hTQ := HTQ.out
    rw [rp_eq HNN.out HJ.out] at hTQ
    rw [hTQ] at hHa
    clear hTQ
    go_upto_region 10 with fail
    go_quiet (first | (go_at_call 62; exact Calls.quiet_of_same (hRu _)) | (go_at_call 61; exact Calls.quiet_of_same (hHa _)))
    clear hRu hHa
    have hbq : Below W2.heap.size W2 (W2.drewN nq) := (Below.refl _ _).drewN
    have HM3 := Lib.hid (HM2.out.below hbq)
    have HK3 := Lib.hid (HK2.out.trans (Frm.of_below (S := Zt g gs) hbq) fun _ h => .inl h)
    have HW3 := Lib.hid (HW2.out.trans (hbq.mono HM2.out.bw))
    have g1' := (HBX.out.drewN nq).cell 1
    simp only [List.getElem?_toArray, List.getElem?_cons_zero, List.getElem?_cons_succ] at g1'
    clear hbq
    go_wp2_with fail
    first | (refine bodyPost_ret (results_none (by rfl) _ _ _) (by rfl) ?_) | (refine bodyPost_end (results_none (by rfl) _ _ _) (by rfl) ?_)
    exact ⟨rfl, (V.add j ((q : Int), fit)), (some cb), (B.set a true), _, .leaf y HST.out HY.out (.inr (.inl ⟨HOP.out, HTQ.out⟩)), HM3.out, HK3.out, (by have := HSL.out; omega)⟩

set_option maxRecDepth 20000 in
set_option maxHeartbeats 4000000 in
theorem th_op5t {w0 W : World} {g gs : Nat} {PA : Option Addr} {n pcap : Nat} {st cp : Int} {gi N : Nat} {lng : Bool} {L : List MI} {m : List (Int × Nat)} {e0 : Nat} {sx : List UInt8} {lo U : Nat} {V : Lev} {B : List Bool} {bv : Value} {b : Option (List Int)} {q j : Nat} {F : Option Addr} {fc : Nat} {fit : List Int} (HC : ThH w0 g gs PA n pcap st cp gi N lng L (full m e0) (B.count false)) (hM : ThM w0.heap.size W g gs PA n pcap st cp gi N lng B V bv b) (hb0 : Below w0.heap.size w0 W) (hF : FitIn W (Zt g gs) (.slice F fit.length fc) fit) (hfc : (fit.length : Int) = cp) (hq : q < n) (hj : j ≤ N) (hin : inT (V j) (q : Int) = false) (hnd : b = none ∨ lng = true) (hP : PgIn w0 PA n pcap L) (hOK : ∀ x ∈ L, InstOK (n : Int) cp x) (hI : RefAt w0 lo U gi m e0 sx) (hU : U ≤ w0.heap.size) (hN : m.length = N) (hrn : ∀ p ∈ m, 0 ≤ p.1) (hNb : N ≤ 100000) (hn : n ≤ 10000) (hcp : 2 ≤ cp ∧ cp ≤ 1000000) {y : MI} (hy : L[q]? = some y) (hop : y.op = 5) (hT : TP (full m e0) j y = true) : Calls Tryd.prog 51 #[.pointer (some ⟨g, 0, none⟩), .int .i64 (q : Int), .int .i64 (j : Int), .slice F fit.length fc] W (ThB w0.heap.size g gs PA n pcap st cp gi N lng L (full m e0) V b B (q : Int) j fit W) := by
  obtain ⟨K, hK⟩ : ∃ K, K = (N + 1) * n := ⟨_, rfl⟩
  obtain ⟨p, hp⟩ : ∃ p, p = j * n := ⟨_, rfl⟩
  obtain ⟨a, ha⟩ : ∃ a, a = p + q := ⟨_, rfl⟩
  have hpb : p ≤ 100001 * 10000 := by rw [hp]; exact Nat.mul_le_mul (by omega) hn
  have hw1 : IntKind.i64.wrap ((j : Int) * (n : Int)) = (p : Int) := by rw [mulN, ← hp]; exact IntWalk.i64_in _ (by omega)
  have hw2 : IntKind.i64.wrap ((p : Int) + (q : Int)) = (a : Int) := by rw [addN, ← ha]; exact IntWalk.i64_in _ (by omega)
  have b0 := hM.box.cell 0
  have b3 := hM.box.cell 3
  have b4 := hM.box.cell 4
  have b5 := hM.box.cell 5
  have b6 := hM.box.cell 6
  have b7 := hM.box.cell 7
  simp only [List.getElem?_toArray, List.getElem?_cons_zero, List.getElem?_cons_succ] at b0 b3 b4 b5 b6 b7
  rw [← hK] at b6
  have d0 : ¬ (N : Int) < (j : Int) := by omega
  have c2 := hM.seenAt hj hq
  rw [← hp, ← ha, hin] at c2
  have f2 := hM.seen.frozen a
  have hai : (a : Int) < (K : Int) := by have := bit_lt hj hq; omega
  have hqi : (q : Int) < (n : Int) := by omega
  have hsl := left_set (B := B) (i := j * n + q) (by rw [hM.bits j q hj hq, hin])
  obtain ⟨bA, oA, y', rfl, hbA, hy', hyI, hyc⟩ := hP.at hq
  rw [hy] at hy'
  obtain rfl : y = y' := by injection hy'
  have hM1 := hM.mark hj hq fit
  rw [← hp, ← ha] at hM1
  rw [← hp, ← ha] at hsl
  have hK1 : Frm (Zt g gs) W (W.setCell ⟨gs, a, none⟩ (.bool true)) := (Frm.refl _ _).set (.inl (.inr rfl)) _
  have e0' := hM1.box.cell 0
  simp only [List.getElem?_toArray, List.getElem?_cons_zero] at e0'
  have hW1 : Below w0.heap.size w0 (W.setCell ⟨gs, a, none⟩ (.bool true)) := hb0.trans (hK1.zt hM.bg hM.bs hM.bw)
  obtain ⟨c4, c5, c6, c7, c8⟩ := hyc _ (.of_below hW1 (Nat.le_refl _))
  have hox := hOK y (List.mem_of_getElem? hy)
  unfold InstOK at hox
  have HO : Hid (0 ≤ y.out ∧ y.out < (n : Int)) := Lib.hid (by omega)
  have hTT : (bits .and .i64 (atAt (full m e0) (j : Int)) y.at_ == 0) = false := by have := hT; unfold TP AtB bne at this; simpa using this
  have hst := not_stop hnd hj hin
  have HM1 := Lib.hid hM1
  have HK1 := Lib.hid hK1
  have HW1 := Lib.hid hW1
  have HCC := Lib.hid HC
  have HY := Lib.hid hy
  have HST := Lib.hid hst
  have HOP := Lib.hid hop
  have HFI := Lib.hid hF
  have HFC := Lib.hid hfc
  have HQ := Lib.hid hq
  have HJ := Lib.hid hj
  have HRI := Lib.hid hI
  have HUU := Lib.hid hU
  have HYI := Lib.hid hyI
  have HSL := Lib.hid hsl
  have HNN := Lib.hid hN
  have HCP := Lib.hid hcp
  have HNB := Lib.hid hNb
  have HRN := Lib.hid hrn
  have HTQ := Lib.hid hT
  have hbv := best_two hnd hM.best
  clear hM hM1 hK1 hW1 HC hy hy' hst hop hF hfc hq hj hI hU hyI hyc hsl hp ha hK hpb hox hOK hin hnd hb0 hP hbA hN hcp hNb hrn hT
  go_enter Tryd.func51, Tryd.ntmps51
  rcases hbv with ⟨rfl, rfl⟩ | ⟨rfl, cb, rfl, hbf⟩
  · go_upto_region 2 with fail
    clear hw1 hw2
    go_upto_region 3 with fail
    generalize W.setCell ⟨gs, a, none⟩ (.bool true) = W1 at HM1 HK1 HW1 e0' c4 c5 c6 c7 c8 ⊢
    clear b0 b3 b4 b5 b6 b7 c2 f2
    go_upto_region 4 with fail
    have hbx := Blk.new W1 64 #[.int .i64 y.op, .int .i64 y.out, .int .i64 y.arg, .slice y.A y.n y.c, .int .i64 y.at_]
    have g0 := hbx.cell 0
    have g1 := hbx.cell 1
    have g2 := hbx.cell 2
    have g3 := hbx.cell 3
    have g4 := hbx.cell 4
    simp only [List.getElem?_toArray, List.getElem?_cons_zero, List.getElem?_cons_succ] at g0 g1 g2 g3 g4
    have hb12 : Below W1.heap.size W1 (W1.alloc (.cells #[.int .i64 y.op, .int .i64 y.out, .int .i64 y.arg, .slice y.A y.n y.c, .int .i64 y.at_] 64)) := (Below.refl _ _).alloc (Nat.le_refl _) _
    have HM2 := Lib.hid (HM1.out.below hb12)
    have HK2 := Lib.hid (HK1.out.trans (Frm.of_below (S := Zt g gs) hb12) fun _ h => .inl h)
    have HW2 := Lib.hid (HW1.out.trans (hb12.mono HM1.out.bw))
    have HXG := Lib.hid (And.intro (Blk.ne hbx HM2.out.box (by decide)) (Blk.ne hbx HM2.out.seen (by decide)))
    have HBX := Lib.hid hbx
    have b3 := HM2.out.box.cell 3
    have b7 := HM2.out.box.cell 7
    have f7 := HM2.out.box.frozen 7
    simp only [List.getElem?_toArray, List.getElem?_cons_zero, List.getElem?_cons_succ] at b3 b7
    clear hbx hb12 e0' c4 c5 c6 c7 c8 HM1 HK1 HW1
    generalize W1.alloc (.cells #[.int .i64 y.op, .int .i64 y.out, .int .i64 y.arg, .slice y.A y.n y.c, .int .i64 y.at_] 64) = W2 at g0 g1 g2 g3 g4 HM2 HK2 HW2 HBX b3 b7 f7 ⊢
    generalize W1.heap.size = gx at g0 g1 g2 g3 g4 HBX HXG ⊢
    rw [HOP.out] at g0
    have hAt := fun d => (refAt_any ((HRI.out.same (.of_below HW2.out HUU.out)).drewN d) HRN.out (j : Int)).mono fun _ _ ⟨a, b⟩ => (⟨a, b.symm⟩ : _ ∧ _)
    go_upto_region 20 with fail
    go_quiet ((go_at_call 63; exact Calls.quiet_of_same (hAt _)))
    clear hAt
    have hbq : Below W2.heap.size W2 (W2.drewN nq) := (Below.refl _ _).drewN
    have HM3 := Lib.hid (HM2.out.below hbq)
    have HK3 := Lib.hid (HK2.out.trans (Frm.of_below (S := Zt g gs) hbq) fun _ h => .inl h)
    have HW3 := Lib.hid (HW2.out.trans (hbq.mono HM2.out.bw))
    have g1' := (HBX.out.drewN nq).cell 1
    simp only [List.getElem?_toArray, List.getElem?_cons_zero, List.getElem?_cons_succ] at g1'
    clear hbq
    have hc1 := HCC.out (W2.drewN nq) (V.add j ((q : Int), fit)) (B.set a true) _ _ y.out (j) F fc (fit) HM3.out HW3.out (HFI.out.frm HK3.out (fun _ h => h) fun _ h => .inl h) HFC.out HO.out.1 HO.out.2 (by have := HJ.out; omega) (by have := HSL.out; omega)
    go_wp2_with fail
    with_reducible refine hc1.mono ?_
    rintro e W8 ⟨rfl, V8, b8, B8, bv8, hd8, hM8, hK8, hle8⟩
    have HF8 := Lib.hid (And.intro hd8 (And.intro hM8 (And.intro hK8 hle8)))
    clear hc1 hd8 hM8 hK8 hle8
    go_wp2_with fail
    first | (refine bodyPost_ret (results_none (by rfl) _ _ _) (by rfl) ?_) | (refine bodyPost_end (results_none (by rfl) _ _ _) (by rfl) ?_)
    exact ⟨rfl, V8, b8, B8, bv8, .one y HST.out HY.out HOP.out HTQ.out HF8.out.1, HF8.out.2.1, HK3.out.trans HF8.out.2.2.1 fun _ h => .inl h, by have h1 := HF8.out.2.2.2; have h3 := HSL.out; omega⟩
  · obtain ⟨vb, vo, vc, rfl, _, _, hvb, hvz, hvc⟩ := hbf
    go_upto_region 2 with fail
    clear hw1 hw2
    go_upto_region 3 with fail
    generalize W.setCell ⟨gs, a, none⟩ (.bool true) = W1 at HM1 HK1 HW1 e0' c4 c5 c6 c7 c8 ⊢
    clear b0 b3 b4 b5 b6 b7 c2 f2
    go_upto_region 4 with fail
    have hbx := Blk.new W1 64 #[.int .i64 y.op, .int .i64 y.out, .int .i64 y.arg, .slice y.A y.n y.c, .int .i64 y.at_]
    have g0 := hbx.cell 0
    have g1 := hbx.cell 1
    have g2 := hbx.cell 2
    have g3 := hbx.cell 3
    have g4 := hbx.cell 4
    simp only [List.getElem?_toArray, List.getElem?_cons_zero, List.getElem?_cons_succ] at g0 g1 g2 g3 g4
    have hb12 : Below W1.heap.size W1 (W1.alloc (.cells #[.int .i64 y.op, .int .i64 y.out, .int .i64 y.arg, .slice y.A y.n y.c, .int .i64 y.at_] 64)) := (Below.refl _ _).alloc (Nat.le_refl _) _
    have HM2 := Lib.hid (HM1.out.below hb12)
    have HK2 := Lib.hid (HK1.out.trans (Frm.of_below (S := Zt g gs) hb12) fun _ h => .inl h)
    have HW2 := Lib.hid (HW1.out.trans (hb12.mono HM1.out.bw))
    have HXG := Lib.hid (And.intro (Blk.ne hbx HM2.out.box (by decide)) (Blk.ne hbx HM2.out.seen (by decide)))
    have HBX := Lib.hid hbx
    have b3 := HM2.out.box.cell 3
    have b7 := HM2.out.box.cell 7
    have f7 := HM2.out.box.frozen 7
    simp only [List.getElem?_toArray, List.getElem?_cons_zero, List.getElem?_cons_succ] at b3 b7
    clear hbx hb12 e0' c4 c5 c6 c7 c8 HM1 HK1 HW1
    generalize W1.alloc (.cells #[.int .i64 y.op, .int .i64 y.out, .int .i64 y.arg, .slice y.A y.n y.c, .int .i64 y.at_] 64) = W2 at g0 g1 g2 g3 g4 HM2 HK2 HW2 HBX b3 b7 f7 ⊢
    generalize W1.heap.size = gx at g0 g1 g2 g3 g4 HBX HXG ⊢
    rw [HOP.out] at g0
    have hAt := fun d => (refAt_any ((HRI.out.same (.of_below HW2.out HUU.out)).drewN d) HRN.out (j : Int)).mono fun _ _ ⟨a, b⟩ => (⟨a, b.symm⟩ : _ ∧ _)
    go_upto_region 20 with fail
    go_quiet ((go_at_call 63; exact Calls.quiet_of_same (hAt _)))
    clear hAt
    have hbq : Below W2.heap.size W2 (W2.drewN nq) := (Below.refl _ _).drewN
    have HM3 := Lib.hid (HM2.out.below hbq)
    have HK3 := Lib.hid (HK2.out.trans (Frm.of_below (S := Zt g gs) hbq) fun _ h => .inl h)
    have HW3 := Lib.hid (HW2.out.trans (hbq.mono HM2.out.bw))
    have g1' := (HBX.out.drewN nq).cell 1
    simp only [List.getElem?_toArray, List.getElem?_cons_zero, List.getElem?_cons_succ] at g1'
    clear hbq
    have hc1 := HCC.out (W2.drewN nq) (V.add j ((q : Int), fit)) (B.set a true) _ _ y.out (j) F fc (fit) HM3.out HW3.out (HFI.out.frm HK3.out (fun _ h => h) fun _ h => .inl h) HFC.out HO.out.1 HO.out.2 (by have := HJ.out; omega) (by have := HSL.out; omega)
    go_wp2_with fail
    with_reducible refine hc1.mono ?_
    rintro e W8 ⟨rfl, V8, b8, B8, bv8, hd8, hM8, hK8, hle8⟩
    have HF8 := Lib.hid (And.intro hd8 (And.intro hM8 (And.intro hK8 hle8)))
    clear hc1 hd8 hM8 hK8 hle8
    go_wp2_with fail
    first | (refine bodyPost_ret (results_none (by rfl) _ _ _) (by rfl) ?_) | (refine bodyPost_end (results_none (by rfl) _ _ _) (by rfl) ?_)
    exact ⟨rfl, V8, b8, B8, bv8, .one y HST.out HY.out HOP.out HTQ.out HF8.out.1, HF8.out.2.1, HK3.out.trans HF8.out.2.2.1 fun _ h => .inl h, by have h1 := HF8.out.2.2.2; have h3 := HSL.out; omega⟩

set_option maxRecDepth 20000 in
set_option maxHeartbeats 4000000 in
theorem th_op5f {w0 W : World} {g gs : Nat} {PA : Option Addr} {n pcap : Nat} {st cp : Int} {gi N : Nat} {lng : Bool} {L : List MI} {m : List (Int × Nat)} {e0 : Nat} {sx : List UInt8} {lo U : Nat} {V : Lev} {B : List Bool} {bv : Value} {b : Option (List Int)} {q j : Nat} {F : Option Addr} {fc : Nat} {fit : List Int} (HC : ThH w0 g gs PA n pcap st cp gi N lng L (full m e0) (B.count false)) (hM : ThM w0.heap.size W g gs PA n pcap st cp gi N lng B V bv b) (hb0 : Below w0.heap.size w0 W) (hF : FitIn W (Zt g gs) (.slice F fit.length fc) fit) (hfc : (fit.length : Int) = cp) (hq : q < n) (hj : j ≤ N) (hin : inT (V j) (q : Int) = false) (hnd : b = none ∨ lng = true) (hP : PgIn w0 PA n pcap L) (hOK : ∀ x ∈ L, InstOK (n : Int) cp x) (hI : RefAt w0 lo U gi m e0 sx) (hU : U ≤ w0.heap.size) (hN : m.length = N) (hrn : ∀ p ∈ m, 0 ≤ p.1) (hNb : N ≤ 100000) (hn : n ≤ 10000) (hcp : 2 ≤ cp ∧ cp ≤ 1000000) {y : MI} (hy : L[q]? = some y) (hop : y.op = 5) (hT : TP (full m e0) j y = false) : Calls Tryd.prog 51 #[.pointer (some ⟨g, 0, none⟩), .int .i64 (q : Int), .int .i64 (j : Int), .slice F fit.length fc] W (ThB w0.heap.size g gs PA n pcap st cp gi N lng L (full m e0) V b B (q : Int) j fit W) := by
  obtain ⟨K, hK⟩ : ∃ K, K = (N + 1) * n := ⟨_, rfl⟩
  obtain ⟨p, hp⟩ : ∃ p, p = j * n := ⟨_, rfl⟩
  obtain ⟨a, ha⟩ : ∃ a, a = p + q := ⟨_, rfl⟩
  have hpb : p ≤ 100001 * 10000 := by rw [hp]; exact Nat.mul_le_mul (by omega) hn
  have hw1 : IntKind.i64.wrap ((j : Int) * (n : Int)) = (p : Int) := by rw [mulN, ← hp]; exact IntWalk.i64_in _ (by omega)
  have hw2 : IntKind.i64.wrap ((p : Int) + (q : Int)) = (a : Int) := by rw [addN, ← ha]; exact IntWalk.i64_in _ (by omega)
  have b0 := hM.box.cell 0
  have b3 := hM.box.cell 3
  have b4 := hM.box.cell 4
  have b5 := hM.box.cell 5
  have b6 := hM.box.cell 6
  have b7 := hM.box.cell 7
  simp only [List.getElem?_toArray, List.getElem?_cons_zero, List.getElem?_cons_succ] at b0 b3 b4 b5 b6 b7
  rw [← hK] at b6
  have d0 : ¬ (N : Int) < (j : Int) := by omega
  have c2 := hM.seenAt hj hq
  rw [← hp, ← ha, hin] at c2
  have f2 := hM.seen.frozen a
  have hai : (a : Int) < (K : Int) := by have := bit_lt hj hq; omega
  have hqi : (q : Int) < (n : Int) := by omega
  have hsl := left_set (B := B) (i := j * n + q) (by rw [hM.bits j q hj hq, hin])
  obtain ⟨bA, oA, y', rfl, hbA, hy', hyI, hyc⟩ := hP.at hq
  rw [hy] at hy'
  obtain rfl : y = y' := by injection hy'
  have hM1 := hM.mark hj hq fit
  rw [← hp, ← ha] at hM1
  rw [← hp, ← ha] at hsl
  have hK1 : Frm (Zt g gs) W (W.setCell ⟨gs, a, none⟩ (.bool true)) := (Frm.refl _ _).set (.inl (.inr rfl)) _
  have e0' := hM1.box.cell 0
  simp only [List.getElem?_toArray, List.getElem?_cons_zero] at e0'
  have hW1 : Below w0.heap.size w0 (W.setCell ⟨gs, a, none⟩ (.bool true)) := hb0.trans (hK1.zt hM.bg hM.bs hM.bw)
  obtain ⟨c4, c5, c6, c7, c8⟩ := hyc _ (.of_below hW1 (Nat.le_refl _))
  have hox := hOK y (List.mem_of_getElem? hy)
  unfold InstOK at hox
  have HO : Hid (0 ≤ y.out ∧ y.out < (n : Int)) := Lib.hid (by omega)
  have hTT : (bits .and .i64 (atAt (full m e0) (j : Int)) y.at_ == 0) = true := by have := hT; unfold TP AtB bne at this; simpa using this
  have hst := not_stop hnd hj hin
  have HM1 := Lib.hid hM1
  have HK1 := Lib.hid hK1
  have HW1 := Lib.hid hW1
  have HCC := Lib.hid HC
  have HY := Lib.hid hy
  have HST := Lib.hid hst
  have HOP := Lib.hid hop
  have HFI := Lib.hid hF
  have HFC := Lib.hid hfc
  have HQ := Lib.hid hq
  have HJ := Lib.hid hj
  have HRI := Lib.hid hI
  have HUU := Lib.hid hU
  have HYI := Lib.hid hyI
  have HSL := Lib.hid hsl
  have HNN := Lib.hid hN
  have HCP := Lib.hid hcp
  have HNB := Lib.hid hNb
  have HRN := Lib.hid hrn
  have HTQ := Lib.hid hT
  have hbv := best_two hnd hM.best
  clear hM hM1 hK1 hW1 HC hy hy' hst hop hF hfc hq hj hI hU hyI hyc hsl hp ha hK hpb hox hOK hin hnd hb0 hP hbA hN hcp hNb hrn hT
  go_enter Tryd.func51, Tryd.ntmps51
  rcases hbv with ⟨rfl, rfl⟩ | ⟨rfl, cb, rfl, hbf⟩
  · go_upto_region 2 with fail
    clear hw1 hw2
    go_upto_region 3 with fail
    generalize W.setCell ⟨gs, a, none⟩ (.bool true) = W1 at HM1 HK1 HW1 e0' c4 c5 c6 c7 c8 ⊢
    clear b0 b3 b4 b5 b6 b7 c2 f2
    go_upto_region 4 with fail
    have hbx := Blk.new W1 64 #[.int .i64 y.op, .int .i64 y.out, .int .i64 y.arg, .slice y.A y.n y.c, .int .i64 y.at_]
    have g0 := hbx.cell 0
    have g1 := hbx.cell 1
    have g2 := hbx.cell 2
    have g3 := hbx.cell 3
    have g4 := hbx.cell 4
    simp only [List.getElem?_toArray, List.getElem?_cons_zero, List.getElem?_cons_succ] at g0 g1 g2 g3 g4
    have hb12 : Below W1.heap.size W1 (W1.alloc (.cells #[.int .i64 y.op, .int .i64 y.out, .int .i64 y.arg, .slice y.A y.n y.c, .int .i64 y.at_] 64)) := (Below.refl _ _).alloc (Nat.le_refl _) _
    have HM2 := Lib.hid (HM1.out.below hb12)
    have HK2 := Lib.hid (HK1.out.trans (Frm.of_below (S := Zt g gs) hb12) fun _ h => .inl h)
    have HW2 := Lib.hid (HW1.out.trans (hb12.mono HM1.out.bw))
    have HXG := Lib.hid (And.intro (Blk.ne hbx HM2.out.box (by decide)) (Blk.ne hbx HM2.out.seen (by decide)))
    have HBX := Lib.hid hbx
    have b3 := HM2.out.box.cell 3
    have b7 := HM2.out.box.cell 7
    have f7 := HM2.out.box.frozen 7
    simp only [List.getElem?_toArray, List.getElem?_cons_zero, List.getElem?_cons_succ] at b3 b7
    clear hbx hb12 e0' c4 c5 c6 c7 c8 HM1 HK1 HW1
    generalize W1.alloc (.cells #[.int .i64 y.op, .int .i64 y.out, .int .i64 y.arg, .slice y.A y.n y.c, .int .i64 y.at_] 64) = W2 at g0 g1 g2 g3 g4 HM2 HK2 HW2 HBX b3 b7 f7 ⊢
    generalize W1.heap.size = gx at g0 g1 g2 g3 g4 HBX HXG ⊢
    rw [HOP.out] at g0
    have hAt := fun d => (refAt_any ((HRI.out.same (.of_below HW2.out HUU.out)).drewN d) HRN.out (j : Int)).mono fun _ _ ⟨a, b⟩ => (⟨a, b.symm⟩ : _ ∧ _)
    go_upto_region 20 with fail
    go_quiet ((go_at_call 63; exact Calls.quiet_of_same (hAt _)))
    clear hAt
    have hbq : Below W2.heap.size W2 (W2.drewN nq) := (Below.refl _ _).drewN
    have HM3 := Lib.hid (HM2.out.below hbq)
    have HK3 := Lib.hid (HK2.out.trans (Frm.of_below (S := Zt g gs) hbq) fun _ h => .inl h)
    have HW3 := Lib.hid (HW2.out.trans (hbq.mono HM2.out.bw))
    have g1' := (HBX.out.drewN nq).cell 1
    simp only [List.getElem?_toArray, List.getElem?_cons_zero, List.getElem?_cons_succ] at g1'
    clear hbq
    go_wp2_with fail
    first | (refine bodyPost_ret (results_none (by rfl) _ _ _) (by rfl) ?_) | (refine bodyPost_end (results_none (by rfl) _ _ _) (by rfl) ?_)
    exact ⟨rfl, (V.add j ((q : Int), fit)), none, (B.set a true), _, .leaf y HST.out HY.out (.inr (.inr ⟨HOP.out, HTQ.out⟩)), HM3.out, HK3.out, (by have := HSL.out; omega)⟩
  · obtain ⟨vb, vo, vc, rfl, _, _, hvb, hvz, hvc⟩ := hbf
    go_upto_region 2 with fail
    clear hw1 hw2
    go_upto_region 3 with fail
    generalize W.setCell ⟨gs, a, none⟩ (.bool true) = W1 at HM1 HK1 HW1 e0' c4 c5 c6 c7 c8 ⊢
    clear b0 b3 b4 b5 b6 b7 c2 f2
    go_upto_region 4 with fail
    have hbx := Blk.new W1 64 #[.int .i64 y.op, .int .i64 y.out, .int .i64 y.arg, .slice y.A y.n y.c, .int .i64 y.at_]
    have g0 := hbx.cell 0
    have g1 := hbx.cell 1
    have g2 := hbx.cell 2
    have g3 := hbx.cell 3
    have g4 := hbx.cell 4
    simp only [List.getElem?_toArray, List.getElem?_cons_zero, List.getElem?_cons_succ] at g0 g1 g2 g3 g4
    have hb12 : Below W1.heap.size W1 (W1.alloc (.cells #[.int .i64 y.op, .int .i64 y.out, .int .i64 y.arg, .slice y.A y.n y.c, .int .i64 y.at_] 64)) := (Below.refl _ _).alloc (Nat.le_refl _) _
    have HM2 := Lib.hid (HM1.out.below hb12)
    have HK2 := Lib.hid (HK1.out.trans (Frm.of_below (S := Zt g gs) hb12) fun _ h => .inl h)
    have HW2 := Lib.hid (HW1.out.trans (hb12.mono HM1.out.bw))
    have HXG := Lib.hid (And.intro (Blk.ne hbx HM2.out.box (by decide)) (Blk.ne hbx HM2.out.seen (by decide)))
    have HBX := Lib.hid hbx
    have b3 := HM2.out.box.cell 3
    have b7 := HM2.out.box.cell 7
    have f7 := HM2.out.box.frozen 7
    simp only [List.getElem?_toArray, List.getElem?_cons_zero, List.getElem?_cons_succ] at b3 b7
    clear hbx hb12 e0' c4 c5 c6 c7 c8 HM1 HK1 HW1
    generalize W1.alloc (.cells #[.int .i64 y.op, .int .i64 y.out, .int .i64 y.arg, .slice y.A y.n y.c, .int .i64 y.at_] 64) = W2 at g0 g1 g2 g3 g4 HM2 HK2 HW2 HBX b3 b7 f7 ⊢
    generalize W1.heap.size = gx at g0 g1 g2 g3 g4 HBX HXG ⊢
    rw [HOP.out] at g0
    have hAt := fun d => (refAt_any ((HRI.out.same (.of_below HW2.out HUU.out)).drewN d) HRN.out (j : Int)).mono fun _ _ ⟨a, b⟩ => (⟨a, b.symm⟩ : _ ∧ _)
    go_upto_region 20 with fail
    go_quiet ((go_at_call 63; exact Calls.quiet_of_same (hAt _)))
    clear hAt
    have hbq : Below W2.heap.size W2 (W2.drewN nq) := (Below.refl _ _).drewN
    have HM3 := Lib.hid (HM2.out.below hbq)
    have HK3 := Lib.hid (HK2.out.trans (Frm.of_below (S := Zt g gs) hbq) fun _ h => .inl h)
    have HW3 := Lib.hid (HW2.out.trans (hbq.mono HM2.out.bw))
    have g1' := (HBX.out.drewN nq).cell 1
    simp only [List.getElem?_toArray, List.getElem?_cons_zero, List.getElem?_cons_succ] at g1'
    clear hbq
    go_wp2_with fail
    first | (refine bodyPost_ret (results_none (by rfl) _ _ _) (by rfl) ?_) | (refine bodyPost_end (results_none (by rfl) _ _ _) (by rfl) ?_)
    exact ⟨rfl, (V.add j ((q : Int), fit)), (some cb), (B.set a true), _, .leaf y HST.out HY.out (.inr (.inr ⟨HOP.out, HTQ.out⟩)), HM3.out, HK3.out, (by have := HSL.out; omega)⟩

set_option maxRecDepth 20000 in
set_option maxHeartbeats 4000000 in
theorem th_op4 {w0 W : World} {g gs : Nat} {PA : Option Addr} {n pcap : Nat} {st cp : Int} {gi N : Nat} {lng : Bool} {L : List MI} {m : List (Int × Nat)} {e0 : Nat} {sx : List UInt8} {lo U : Nat} {V : Lev} {B : List Bool} {bv : Value} {b : Option (List Int)} {q j : Nat} {F : Option Addr} {fc : Nat} {fit : List Int} (HC : ThH w0 g gs PA n pcap st cp gi N lng L (full m e0) (B.count false)) (hM : ThM w0.heap.size W g gs PA n pcap st cp gi N lng B V bv b) (hb0 : Below w0.heap.size w0 W) (hF : FitIn W (Zt g gs) (.slice F fit.length fc) fit) (hfc : (fit.length : Int) = cp) (hq : q < n) (hj : j ≤ N) (hin : inT (V j) (q : Int) = false) (hnd : b = none ∨ lng = true) (hP : PgIn w0 PA n pcap L) (hOK : ∀ x ∈ L, InstOK (n : Int) cp x) (hI : RefAt w0 lo U gi m e0 sx) (hU : U ≤ w0.heap.size) (hN : m.length = N) (hrn : ∀ p ∈ m, 0 ≤ p.1) (hNb : N ≤ 100000) (hn : n ≤ 10000) (hcp : 2 ≤ cp ∧ cp ≤ 1000000) {y : MI} (hy : L[q]? = some y) (hop : y.op = 4) : Calls Tryd.prog 51 #[.pointer (some ⟨g, 0, none⟩), .int .i64 (q : Int), .int .i64 (j : Int), .slice F fit.length fc] W (ThB w0.heap.size g gs PA n pcap st cp gi N lng L (full m e0) V b B (q : Int) j fit W) := by
  obtain ⟨K, hK⟩ : ∃ K, K = (N + 1) * n := ⟨_, rfl⟩
  obtain ⟨p, hp⟩ : ∃ p, p = j * n := ⟨_, rfl⟩
  obtain ⟨a, ha⟩ : ∃ a, a = p + q := ⟨_, rfl⟩
  have hpb : p ≤ 100001 * 10000 := by rw [hp]; exact Nat.mul_le_mul (by omega) hn
  have hw1 : IntKind.i64.wrap ((j : Int) * (n : Int)) = (p : Int) := by rw [mulN, ← hp]; exact IntWalk.i64_in _ (by omega)
  have hw2 : IntKind.i64.wrap ((p : Int) + (q : Int)) = (a : Int) := by rw [addN, ← ha]; exact IntWalk.i64_in _ (by omega)
  have b0 := hM.box.cell 0
  have b3 := hM.box.cell 3
  have b4 := hM.box.cell 4
  have b5 := hM.box.cell 5
  have b6 := hM.box.cell 6
  have b7 := hM.box.cell 7
  simp only [List.getElem?_toArray, List.getElem?_cons_zero, List.getElem?_cons_succ] at b0 b3 b4 b5 b6 b7
  rw [← hK] at b6
  have d0 : ¬ (N : Int) < (j : Int) := by omega
  have c2 := hM.seenAt hj hq
  rw [← hp, ← ha, hin] at c2
  have f2 := hM.seen.frozen a
  have hai : (a : Int) < (K : Int) := by have := bit_lt hj hq; omega
  have hqi : (q : Int) < (n : Int) := by omega
  have hsl := left_set (B := B) (i := j * n + q) (by rw [hM.bits j q hj hq, hin])
  obtain ⟨bA, oA, y', rfl, hbA, hy', hyI, hyc⟩ := hP.at hq
  rw [hy] at hy'
  obtain rfl : y = y' := by injection hy'
  have hM1 := hM.mark hj hq fit
  rw [← hp, ← ha] at hM1
  rw [← hp, ← ha] at hsl
  have hK1 : Frm (Zt g gs) W (W.setCell ⟨gs, a, none⟩ (.bool true)) := (Frm.refl _ _).set (.inl (.inr rfl)) _
  have e0' := hM1.box.cell 0
  simp only [List.getElem?_toArray, List.getElem?_cons_zero] at e0'
  have hW1 : Below w0.heap.size w0 (W.setCell ⟨gs, a, none⟩ (.bool true)) := hb0.trans (hK1.zt hM.bg hM.bs hM.bw)
  obtain ⟨c4, c5, c6, c7, c8⟩ := hyc _ (.of_below hW1 (Nat.le_refl _))
  have hox := hOK y (List.mem_of_getElem? hy)
  unfold InstOK at hox
  have HO : Hid (0 ≤ y.out ∧ y.out < (n : Int)) := Lib.hid (by omega)
  have HAR : Hid (2 ≤ y.arg ∧ y.arg < cp) := Lib.hid (by omega)
  have hst := not_stop hnd hj hin
  have HM1 := Lib.hid hM1
  have HK1 := Lib.hid hK1
  have HW1 := Lib.hid hW1
  have HCC := Lib.hid HC
  have HY := Lib.hid hy
  have HST := Lib.hid hst
  have HOP := Lib.hid hop
  have HFI := Lib.hid hF
  have HFC := Lib.hid hfc
  have HQ := Lib.hid hq
  have HJ := Lib.hid hj
  have HRI := Lib.hid hI
  have HUU := Lib.hid hU
  have HYI := Lib.hid hyI
  have HSL := Lib.hid hsl
  have HNN := Lib.hid hN
  have HCP := Lib.hid hcp
  have HNB := Lib.hid hNb
  have HRN := Lib.hid hrn
  have hbv := best_two hnd hM.best
  clear hM hM1 hK1 hW1 HC hy hy' hst hop hF hfc hq hj hI hU hyI hyc hsl hp ha hK hpb hox hOK hin hnd hb0 hP hbA hN hcp hNb hrn
  go_enter Tryd.func51, Tryd.ntmps51
  rcases hbv with ⟨rfl, rfl⟩ | ⟨rfl, cb, rfl, hbf⟩
  · go_upto_region 2 with fail
    clear hw1 hw2
    go_upto_region 3 with fail
    generalize W.setCell ⟨gs, a, none⟩ (.bool true) = W1 at HM1 HK1 HW1 e0' c4 c5 c6 c7 c8 ⊢
    clear b0 b3 b4 b5 b6 b7 c2 f2
    go_upto_region 4 with fail
    have hbx := Blk.new W1 64 #[.int .i64 y.op, .int .i64 y.out, .int .i64 y.arg, .slice y.A y.n y.c, .int .i64 y.at_]
    have g0 := hbx.cell 0
    have g1 := hbx.cell 1
    have g2 := hbx.cell 2
    have g3 := hbx.cell 3
    have g4 := hbx.cell 4
    simp only [List.getElem?_toArray, List.getElem?_cons_zero, List.getElem?_cons_succ] at g0 g1 g2 g3 g4
    have hb12 : Below W1.heap.size W1 (W1.alloc (.cells #[.int .i64 y.op, .int .i64 y.out, .int .i64 y.arg, .slice y.A y.n y.c, .int .i64 y.at_] 64)) := (Below.refl _ _).alloc (Nat.le_refl _) _
    have HM2 := Lib.hid (HM1.out.below hb12)
    have HK2 := Lib.hid (HK1.out.trans (Frm.of_below (S := Zt g gs) hb12) fun _ h => .inl h)
    have HW2 := Lib.hid (HW1.out.trans (hb12.mono HM1.out.bw))
    have HXG := Lib.hid (And.intro (Blk.ne hbx HM2.out.box (by decide)) (Blk.ne hbx HM2.out.seen (by decide)))
    have HBX := Lib.hid hbx
    have b3 := HM2.out.box.cell 3
    have b7 := HM2.out.box.cell 7
    have f7 := HM2.out.box.frozen 7
    simp only [List.getElem?_toArray, List.getElem?_cons_zero, List.getElem?_cons_succ] at b3 b7
    clear hbx hb12 e0' c4 c5 c6 c7 c8 HM1 HK1 HW1
    generalize W1.alloc (.cells #[.int .i64 y.op, .int .i64 y.out, .int .i64 y.arg, .slice y.A y.n y.c, .int .i64 y.at_] 64) = W2 at g0 g1 g2 g3 g4 HM2 HK2 HW2 HBX b3 b7 f7 ⊢
    generalize W1.heap.size = gx at g0 g1 g2 g3 g4 HBX HXG ⊢
    rw [HOP.out] at g0
    obtain ⟨ya, hya⟩ : ∃ ya : Nat, y.arg = (ya : Int) := ⟨y.arg.toNat, by have := HAR.out; omega⟩
    have hmade := World.ownsRow_made (base := W2.heap.size) (size := 1) (e := 3) W2 #[] 0 (Nat.le_refl _) (Nat.zero_le _) rfl
    have hab0 := fun k hk => (hmade.lt k hk).1
    have hba : Below W2.heap.size W2 (W2.alloc (.cells #[] 3)) := (Below.refl _ _).alloc (Nat.le_refl _) _
    have hfi2 := (HFI.out.frm HK2.out (fun _ h => h) fun _ h => .inl h).il
    have hfr := (hfi2.below hba).rd
    have hfn := hfi2.nil
    have hfl : (i64s fit).length = fit.length * 1 := by rw [i64s_length, Nat.mul_one]
    have hmx : 0 + fit.length ≤ maxLen := by unfold maxLen; have := HFC.out; have := HCP.out; omega
    have hbt : (0 + fit.length) * 8 ≤ 140737488355328 := by have := HFC.out; have := HCP.out; omega
    clear hfi2
    go_upto_region 17 with (at_builtin; refine wpList_app _ rfl _ _ 35 rfl W2.heap.size 3 elIt _ _ _ rfl hmade 0 _ F fit.length fc (i64s fit) rfl hfn hfl hfr (i64s_one fit) hmx hbt (by simp) ?_; intro v1 W3 hv1 hg1 _ _; simp only [Nat.zero_add, List.nil_append] at hv1; obtain ⟨uA, uc, rfl, _, _⟩ := own_form hv1; have hb23 : Below W2.heap.size W2 W3 := hba.grown hg1 (by simp) hab0; obtain ⟨gB, ucap, hve, hgb, hgl⟩ := hv1.form (by have := HFC.out; have := HCP.out; omega); obtain ⟨rfl, rfl⟩ : uA = some ⟨gB, 0, none⟩ ∧ uc = ucap := (by injection hve with h1 _ h2; exact ⟨h1, h2⟩))
    have har : (ya : Int) < (fit.length : Int) := by have := HAR.out; have := HFC.out; omega
    have hsto := (hv1.stored ya (.int .i64 (j : Int)))
    rw [show (i64s fit).set ya (.int .i64 (j : Int)) = i64s (fit.set ya (j : Int)) by simp [i64s, List.map_set]] at hsto
    obtain ⟨cur, hcB, _, hcs, hct, _, _⟩ := own_blk hv1
    have hyz : ya < cur.size := by have := hv1.1; have h2 := congrArg List.length hct; rw [i64s_length] at h2; rw [List.length_take] at h2; simp only [Array.length_toList] at h2; omega
    have r1 : W3.cell? ⟨gB, ya, none⟩ = some cur[ya] := by rw [hcB.cell]; exact Array.getElem?_eq_getElem hyz
    have r2 := hcB.frozen ya
    have g2' := (HBX.out.below hb23 HBX.out.lt).cell 2
    simp only [List.getElem?_toArray, List.getElem?_cons_zero, List.getElem?_cons_succ] at g2'
    rw [hya] at g2'
    have hb24 : Below W2.heap.size W2 (W3.setCell ⟨gB, ya, none⟩ (.int .i64 (j : Int))) := hb23.setCell hgb _
    have HFI4 : Hid (FitIn (W3.setCell ⟨gB, ya, none⟩ (.int .i64 (j : Int))) (Zt g gs) (.slice (some ⟨gB, 0, none⟩) fit.length uc) (fit.set ya (j : Int))) := Lib.hid (FitIn.of_own hsto.1 (by have := HFC.out; have := HCP.out; omega) fun k hk => (by rcases hk with rfl | rfl; exact HM2.out.box.lt; exact HM2.out.seen.lt))
    have HM4 := Lib.hid (HM2.out.below hb24)
    have HK4 := Lib.hid (HK2.out.trans (Frm.of_below (S := Zt g gs) hb24) fun _ h => .inl h)
    have HW4 := Lib.hid (HW2.out.trans (hb24.mono HM2.out.bw))
    have HBX4 := Lib.hid (HBX.out.below hb24 HBX.out.lt)
    have hya0 : ya < fit.length := by omega
    generalize cur[ya] = cu at r1
    clear hmade hab0 hba hfr hfn hfl hmx hbt hv1 hg1 hb23 hb24 hgb hgl hsto hcB hcs hct hyz g0 g1 g2 g3 g4 b3 b7 f7
    go_upto_region 18 with fail
    generalize W3.setCell ⟨gB, ya, none⟩ (.int .i64 (j : Int)) = W4 at HFI4 HM4 HK4 HW4 HBX4 ⊢
    clear r1 r2 g2'
    have g1' := HBX4.out.cell 1
    simp only [List.getElem?_toArray, List.getElem?_cons_zero, List.getElem?_cons_succ] at g1'
    have hc1 := HCC.out W4 (V.add j ((q : Int), fit)) (B.set a true) _ _ y.out (j) (some ⟨gB, 0, none⟩) uc (fit.set ya (j : Int)) HM4.out HW4.out (by rw [List.length_set]; exact HFI4.out) (by rw [List.length_set]; exact HFC.out) HO.out.1 HO.out.2 (by have := HJ.out; omega) (by have := HSL.out; omega)
    rw [List.length_set] at hc1
    go_wp2_with fail
    with_reducible refine hc1.mono ?_
    rintro e W8 ⟨rfl, V8, b8, B8, bv8, hd8, hM8, hK8, hle8⟩
    have HF8 := Lib.hid (And.intro hd8 (And.intro hM8 (And.intro hK8 hle8)))
    clear hc1 hd8 hM8 hK8 hle8
    go_wp2_with fail
    first | (refine bodyPost_ret (results_none (by rfl) _ _ _) (by rfl) ?_) | (refine bodyPost_end (results_none (by rfl) _ _ _) (by rfl) ?_)
    exact ⟨rfl, V8, b8, B8, bv8, .cap y HST.out HY.out HOP.out (by rw [show y.arg.toNat = ya by omega]; exact HF8.out.1), HF8.out.2.1, HK4.out.trans HF8.out.2.2.1 fun _ h => .inl h, by have h1 := HF8.out.2.2.2; have h3 := HSL.out; omega⟩
  · obtain ⟨vb, vo, vc, rfl, _, _, hvb, hvz, hvc⟩ := hbf
    go_upto_region 2 with fail
    clear hw1 hw2
    go_upto_region 3 with fail
    generalize W.setCell ⟨gs, a, none⟩ (.bool true) = W1 at HM1 HK1 HW1 e0' c4 c5 c6 c7 c8 ⊢
    clear b0 b3 b4 b5 b6 b7 c2 f2
    go_upto_region 4 with fail
    have hbx := Blk.new W1 64 #[.int .i64 y.op, .int .i64 y.out, .int .i64 y.arg, .slice y.A y.n y.c, .int .i64 y.at_]
    have g0 := hbx.cell 0
    have g1 := hbx.cell 1
    have g2 := hbx.cell 2
    have g3 := hbx.cell 3
    have g4 := hbx.cell 4
    simp only [List.getElem?_toArray, List.getElem?_cons_zero, List.getElem?_cons_succ] at g0 g1 g2 g3 g4
    have hb12 : Below W1.heap.size W1 (W1.alloc (.cells #[.int .i64 y.op, .int .i64 y.out, .int .i64 y.arg, .slice y.A y.n y.c, .int .i64 y.at_] 64)) := (Below.refl _ _).alloc (Nat.le_refl _) _
    have HM2 := Lib.hid (HM1.out.below hb12)
    have HK2 := Lib.hid (HK1.out.trans (Frm.of_below (S := Zt g gs) hb12) fun _ h => .inl h)
    have HW2 := Lib.hid (HW1.out.trans (hb12.mono HM1.out.bw))
    have HXG := Lib.hid (And.intro (Blk.ne hbx HM2.out.box (by decide)) (Blk.ne hbx HM2.out.seen (by decide)))
    have HBX := Lib.hid hbx
    have b3 := HM2.out.box.cell 3
    have b7 := HM2.out.box.cell 7
    have f7 := HM2.out.box.frozen 7
    simp only [List.getElem?_toArray, List.getElem?_cons_zero, List.getElem?_cons_succ] at b3 b7
    clear hbx hb12 e0' c4 c5 c6 c7 c8 HM1 HK1 HW1
    generalize W1.alloc (.cells #[.int .i64 y.op, .int .i64 y.out, .int .i64 y.arg, .slice y.A y.n y.c, .int .i64 y.at_] 64) = W2 at g0 g1 g2 g3 g4 HM2 HK2 HW2 HBX b3 b7 f7 ⊢
    generalize W1.heap.size = gx at g0 g1 g2 g3 g4 HBX HXG ⊢
    rw [HOP.out] at g0
    obtain ⟨ya, hya⟩ : ∃ ya : Nat, y.arg = (ya : Int) := ⟨y.arg.toNat, by have := HAR.out; omega⟩
    have hmade := World.ownsRow_made (base := W2.heap.size) (size := 1) (e := 3) W2 #[] 0 (Nat.le_refl _) (Nat.zero_le _) rfl
    have hab0 := fun k hk => (hmade.lt k hk).1
    have hba : Below W2.heap.size W2 (W2.alloc (.cells #[] 3)) := (Below.refl _ _).alloc (Nat.le_refl _) _
    have hfi2 := (HFI.out.frm HK2.out (fun _ h => h) fun _ h => .inl h).il
    have hfr := (hfi2.below hba).rd
    have hfn := hfi2.nil
    have hfl : (i64s fit).length = fit.length * 1 := by rw [i64s_length, Nat.mul_one]
    have hmx : 0 + fit.length ≤ maxLen := by unfold maxLen; have := HFC.out; have := HCP.out; omega
    have hbt : (0 + fit.length) * 8 ≤ 140737488355328 := by have := HFC.out; have := HCP.out; omega
    clear hfi2
    go_upto_region 17 with (at_builtin; refine wpList_app _ rfl _ _ 35 rfl W2.heap.size 3 elIt _ _ _ rfl hmade 0 _ F fit.length fc (i64s fit) rfl hfn hfl hfr (i64s_one fit) hmx hbt (by simp) ?_; intro v1 W3 hv1 hg1 _ _; simp only [Nat.zero_add, List.nil_append] at hv1; obtain ⟨uA, uc, rfl, _, _⟩ := own_form hv1; have hb23 : Below W2.heap.size W2 W3 := hba.grown hg1 (by simp) hab0; obtain ⟨gB, ucap, hve, hgb, hgl⟩ := hv1.form (by have := HFC.out; have := HCP.out; omega); obtain ⟨rfl, rfl⟩ : uA = some ⟨gB, 0, none⟩ ∧ uc = ucap := (by injection hve with h1 _ h2; exact ⟨h1, h2⟩))
    have har : (ya : Int) < (fit.length : Int) := by have := HAR.out; have := HFC.out; omega
    have hsto := (hv1.stored ya (.int .i64 (j : Int)))
    rw [show (i64s fit).set ya (.int .i64 (j : Int)) = i64s (fit.set ya (j : Int)) by simp [i64s, List.map_set]] at hsto
    obtain ⟨cur, hcB, _, hcs, hct, _, _⟩ := own_blk hv1
    have hyz : ya < cur.size := by have := hv1.1; have h2 := congrArg List.length hct; rw [i64s_length] at h2; rw [List.length_take] at h2; simp only [Array.length_toList] at h2; omega
    have r1 : W3.cell? ⟨gB, ya, none⟩ = some cur[ya] := by rw [hcB.cell]; exact Array.getElem?_eq_getElem hyz
    have r2 := hcB.frozen ya
    have g2' := (HBX.out.below hb23 HBX.out.lt).cell 2
    simp only [List.getElem?_toArray, List.getElem?_cons_zero, List.getElem?_cons_succ] at g2'
    rw [hya] at g2'
    have hb24 : Below W2.heap.size W2 (W3.setCell ⟨gB, ya, none⟩ (.int .i64 (j : Int))) := hb23.setCell hgb _
    have HFI4 : Hid (FitIn (W3.setCell ⟨gB, ya, none⟩ (.int .i64 (j : Int))) (Zt g gs) (.slice (some ⟨gB, 0, none⟩) fit.length uc) (fit.set ya (j : Int))) := Lib.hid (FitIn.of_own hsto.1 (by have := HFC.out; have := HCP.out; omega) fun k hk => (by rcases hk with rfl | rfl; exact HM2.out.box.lt; exact HM2.out.seen.lt))
    have HM4 := Lib.hid (HM2.out.below hb24)
    have HK4 := Lib.hid (HK2.out.trans (Frm.of_below (S := Zt g gs) hb24) fun _ h => .inl h)
    have HW4 := Lib.hid (HW2.out.trans (hb24.mono HM2.out.bw))
    have HBX4 := Lib.hid (HBX.out.below hb24 HBX.out.lt)
    have hya0 : ya < fit.length := by omega
    generalize cur[ya] = cu at r1
    clear hmade hab0 hba hfr hfn hfl hmx hbt hv1 hg1 hb23 hb24 hgb hgl hsto hcB hcs hct hyz g0 g1 g2 g3 g4 b3 b7 f7
    go_upto_region 18 with fail
    generalize W3.setCell ⟨gB, ya, none⟩ (.int .i64 (j : Int)) = W4 at HFI4 HM4 HK4 HW4 HBX4 ⊢
    clear r1 r2 g2'
    have g1' := HBX4.out.cell 1
    simp only [List.getElem?_toArray, List.getElem?_cons_zero, List.getElem?_cons_succ] at g1'
    have hc1 := HCC.out W4 (V.add j ((q : Int), fit)) (B.set a true) _ _ y.out (j) (some ⟨gB, 0, none⟩) uc (fit.set ya (j : Int)) HM4.out HW4.out (by rw [List.length_set]; exact HFI4.out) (by rw [List.length_set]; exact HFC.out) HO.out.1 HO.out.2 (by have := HJ.out; omega) (by have := HSL.out; omega)
    rw [List.length_set] at hc1
    go_wp2_with fail
    with_reducible refine hc1.mono ?_
    rintro e W8 ⟨rfl, V8, b8, B8, bv8, hd8, hM8, hK8, hle8⟩
    have HF8 := Lib.hid (And.intro hd8 (And.intro hM8 (And.intro hK8 hle8)))
    clear hc1 hd8 hM8 hK8 hle8
    go_wp2_with fail
    first | (refine bodyPost_ret (results_none (by rfl) _ _ _) (by rfl) ?_) | (refine bodyPost_end (results_none (by rfl) _ _ _) (by rfl) ?_)
    exact ⟨rfl, V8, b8, B8, bv8, .cap y HST.out HY.out HOP.out (by rw [show y.arg.toNat = ya by omega]; exact HF8.out.1), HF8.out.2.1, HK4.out.trans HF8.out.2.2.1 fun _ h => .inl h, by have h1 := HF8.out.2.2.2; have h3 := HSL.out; omega⟩

set_option maxRecDepth 20000 in
set_option maxHeartbeats 4000000 in
theorem th_op1 {w0 W : World} {g gs : Nat} {PA : Option Addr} {n pcap : Nat} {st cp : Int} {gi N : Nat} {lng : Bool} {L : List MI} {m : List (Int × Nat)} {e0 : Nat} {sx : List UInt8} {lo U : Nat} {V : Lev} {B : List Bool} {bv : Value} {b : Option (List Int)} {q j : Nat} {F : Option Addr} {fc : Nat} {fit : List Int} (HC : ThH w0 g gs PA n pcap st cp gi N lng L (full m e0) (B.count false)) (hM : ThM w0.heap.size W g gs PA n pcap st cp gi N lng B V bv b) (hb0 : Below w0.heap.size w0 W) (hF : FitIn W (Zt g gs) (.slice F fit.length fc) fit) (hfc : (fit.length : Int) = cp) (hq : q < n) (hj : j ≤ N) (hin : inT (V j) (q : Int) = false) (hnd : b = none ∨ lng = true) (hP : PgIn w0 PA n pcap L) (hOK : ∀ x ∈ L, InstOK (n : Int) cp x) (hI : RefAt w0 lo U gi m e0 sx) (hU : U ≤ w0.heap.size) (hN : m.length = N) (hrn : ∀ p ∈ m, 0 ≤ p.1) (hNb : N ≤ 100000) (hn : n ≤ 10000) (hcp : 2 ≤ cp ∧ cp ≤ 1000000) {y : MI} (hy : L[q]? = some y) (hop : y.op = 1) : Calls Tryd.prog 51 #[.pointer (some ⟨g, 0, none⟩), .int .i64 (q : Int), .int .i64 (j : Int), .slice F fit.length fc] W (ThB w0.heap.size g gs PA n pcap st cp gi N lng L (full m e0) V b B (q : Int) j fit W) := by
  obtain ⟨K, hK⟩ : ∃ K, K = (N + 1) * n := ⟨_, rfl⟩
  obtain ⟨p, hp⟩ : ∃ p, p = j * n := ⟨_, rfl⟩
  obtain ⟨a, ha⟩ : ∃ a, a = p + q := ⟨_, rfl⟩
  have hpb : p ≤ 100001 * 10000 := by rw [hp]; exact Nat.mul_le_mul (by omega) hn
  have hw1 : IntKind.i64.wrap ((j : Int) * (n : Int)) = (p : Int) := by rw [mulN, ← hp]; exact IntWalk.i64_in _ (by omega)
  have hw2 : IntKind.i64.wrap ((p : Int) + (q : Int)) = (a : Int) := by rw [addN, ← ha]; exact IntWalk.i64_in _ (by omega)
  have b0 := hM.box.cell 0
  have b3 := hM.box.cell 3
  have b4 := hM.box.cell 4
  have b5 := hM.box.cell 5
  have b6 := hM.box.cell 6
  have b7 := hM.box.cell 7
  simp only [List.getElem?_toArray, List.getElem?_cons_zero, List.getElem?_cons_succ] at b0 b3 b4 b5 b6 b7
  rw [← hK] at b6
  have d0 : ¬ (N : Int) < (j : Int) := by omega
  have c2 := hM.seenAt hj hq
  rw [← hp, ← ha, hin] at c2
  have f2 := hM.seen.frozen a
  have hai : (a : Int) < (K : Int) := by have := bit_lt hj hq; omega
  have hqi : (q : Int) < (n : Int) := by omega
  have hsl := left_set (B := B) (i := j * n + q) (by rw [hM.bits j q hj hq, hin])
  obtain ⟨bA, oA, y', rfl, hbA, hy', hyI, hyc⟩ := hP.at hq
  rw [hy] at hy'
  obtain rfl : y = y' := by injection hy'
  have hM1 := hM.mark hj hq fit
  rw [← hp, ← ha] at hM1
  rw [← hp, ← ha] at hsl
  have hK1 : Frm (Zt g gs) W (W.setCell ⟨gs, a, none⟩ (.bool true)) := (Frm.refl _ _).set (.inl (.inr rfl)) _
  have e0' := hM1.box.cell 0
  simp only [List.getElem?_toArray, List.getElem?_cons_zero] at e0'
  have hW1 : Below w0.heap.size w0 (W.setCell ⟨gs, a, none⟩ (.bool true)) := hb0.trans (hK1.zt hM.bg hM.bs hM.bw)
  obtain ⟨c4, c5, c6, c7, c8⟩ := hyc _ (.of_below hW1 (Nat.le_refl _))
  have hox := hOK y (List.mem_of_getElem? hy)
  unfold InstOK at hox
  have hst := not_stop hnd hj hin
  have HM1 := Lib.hid hM1
  have HK1 := Lib.hid hK1
  have HW1 := Lib.hid hW1
  have HCC := Lib.hid HC
  have HY := Lib.hid hy
  have HST := Lib.hid hst
  have HOP := Lib.hid hop
  have HFI := Lib.hid hF
  have HFC := Lib.hid hfc
  have HQ := Lib.hid hq
  have HJ := Lib.hid hj
  have HRI := Lib.hid hI
  have HUU := Lib.hid hU
  have HYI := Lib.hid hyI
  have HSL := Lib.hid hsl
  have HNN := Lib.hid hN
  have HCP := Lib.hid hcp
  have HNB := Lib.hid hNb
  have HRN := Lib.hid hrn
  have hbv := best_two hnd hM.best
  clear hM hM1 hK1 hW1 HC hy hy' hst hop hF hfc hq hj hI hU hyI hyc hsl hp ha hK hpb hox hOK hin hnd hb0 hP hbA hN hcp hNb hrn
  have qn : ∀ (w : World) (a : Option Addr) (n c n' c' : Nat), (binOp .eql 35 (.slice a n c) (.slice none n' c')).run Tryd.prog w = .ok (.bool a.isNone) w := fun w a n c n' c' => Lib.run_eql_slice_nil w _ _ a n c n' c' Tryd.underlying35
  go_enter Tryd.func51, Tryd.ntmps51
  rcases hbv with ⟨rfl, rfl⟩ | ⟨rfl, cb, rfl, hbf⟩
  · go_upto_region 2 with fail
    clear hw1 hw2
    go_upto_region 3 with fail
    generalize W.setCell ⟨gs, a, none⟩ (.bool true) = W1 at HM1 HK1 HW1 e0' c4 c5 c6 c7 c8 ⊢
    clear b0 b3 b4 b5 b6 b7 c2 f2
    go_upto_region 4 with fail
    have hbx := Blk.new W1 64 #[.int .i64 y.op, .int .i64 y.out, .int .i64 y.arg, .slice y.A y.n y.c, .int .i64 y.at_]
    have g0 := hbx.cell 0
    have g1 := hbx.cell 1
    have g2 := hbx.cell 2
    have g3 := hbx.cell 3
    have g4 := hbx.cell 4
    simp only [List.getElem?_toArray, List.getElem?_cons_zero, List.getElem?_cons_succ] at g0 g1 g2 g3 g4
    have hb12 : Below W1.heap.size W1 (W1.alloc (.cells #[.int .i64 y.op, .int .i64 y.out, .int .i64 y.arg, .slice y.A y.n y.c, .int .i64 y.at_] 64)) := (Below.refl _ _).alloc (Nat.le_refl _) _
    have HM2 := Lib.hid (HM1.out.below hb12)
    have HK2 := Lib.hid (HK1.out.trans (Frm.of_below (S := Zt g gs) hb12) fun _ h => .inl h)
    have HW2 := Lib.hid (HW1.out.trans (hb12.mono HM1.out.bw))
    have HXG := Lib.hid (And.intro (Blk.ne hbx HM2.out.box (by decide)) (Blk.ne hbx HM2.out.seen (by decide)))
    have HBX := Lib.hid hbx
    have b3 := HM2.out.box.cell 3
    have b7 := HM2.out.box.cell 7
    have f7 := HM2.out.box.frozen 7
    simp only [List.getElem?_toArray, List.getElem?_cons_zero, List.getElem?_cons_succ] at b3 b7
    clear hbx hb12 e0' c4 c5 c6 c7 c8 HM1 HK1 HW1
    generalize W1.alloc (.cells #[.int .i64 y.op, .int .i64 y.out, .int .i64 y.arg, .slice y.A y.n y.c, .int .i64 y.at_] 64) = W2 at g0 g1 g2 g3 g4 HM2 HK2 HW2 HBX b3 b7 f7 ⊢
    generalize W1.heap.size = gx at g0 g1 g2 g3 g4 HBX HXG ⊢
    rw [HOP.out] at g0
    have hmade := World.ownsRow_made (base := W2.heap.size) (size := 1) (e := 3) W2 #[] 0 (Nat.le_refl _) (Nat.zero_le _) rfl
    have hab0 := fun k hk => (hmade.lt k hk).1
    have hba : Below W2.heap.size W2 (W2.alloc (.cells #[] 3)) := (Below.refl _ _).alloc (Nat.le_refl _) _
    have hfi2 := (HFI.out.frm HK2.out (fun _ h => h) fun _ h => .inl h).il
    have hfr := (hfi2.below hba).rd
    have hfn := hfi2.nil
    have hfl : (i64s fit).length = fit.length * 1 := by rw [i64s_length, Nat.mul_one]
    have hmx : 0 + fit.length ≤ maxLen := by unfold maxLen; have := HFC.out; have := HCP.out; omega
    have hbt : (0 + fit.length) * 8 ≤ 140737488355328 := by have := HFC.out; have := HCP.out; omega
    clear hfi2
    go_upto_region 8 with (at_builtin; refine wpList_app _ rfl _ _ 35 rfl W2.heap.size 3 elIt _ _ _ rfl hmade 0 _ F fit.length fc (i64s fit) rfl hfn hfl hfr (i64s_one fit) hmx hbt (by simp) ?_; intro v1 W3 hv1 hg1 _ _; simp only [Nat.zero_add, List.nil_append] at hv1; obtain ⟨uA, uc, rfl, _, _⟩ := own_form hv1; have hb23 : Below W2.heap.size W2 W3 := hba.grown hg1 (by simp) hab0; obtain ⟨gB, ucap, hve, hgb, hgl⟩ := hv1.form (by have := HFC.out; have := HCP.out; omega); obtain ⟨rfl, rfl⟩ : uA = some ⟨gB, 0, none⟩ ∧ uc = ucap := (by injection hve with h1 _ h2; exact ⟨h1, h2⟩); have f7 := (HM2.out.below hb23).box.frozen 7; have b7 := (HM2.out.below hb23).box.cell 7; simp only [List.getElem?_toArray, List.getElem?_cons_zero, List.getElem?_cons_succ] at b7)
    have h2f : 2 ≤ fit.length := by have := HFC.out; have := HCP.out; omega
    have hfi3 : FitIn W3 (Zt g gs) (.slice (some ⟨gB, 0, none⟩) fit.length uc) fit := FitIn.of_own hv1 (by omega) fun k hk => (by rcases hk with rfl | rfl; exact HM2.out.box.lt; exact HM2.out.seen.lt)
    have hM4 := (HM2.out.below hb23).keep hfi3 h2f
    have ho4 := own_far1 hv1 (HM2.out.below hb23).box (by decide) 7 (.slice (some ⟨gB, 0, none⟩) fit.length uc)
    have hM5 := hM4.best1 ho4 HM2.out.box.lt HM2.out.seen.lt h2f (j : Int)
    have b7' := hM4.box.cell 7
    simp only [List.getElem?_toArray, List.getElem?_cons_zero, List.getElem?_cons_succ] at b7'
    obtain ⟨cur, hcB, _, hcs, hct, _, _⟩ := own_blk ho4
    have hyz : 1 < cur.size := by have := ho4.1; have h2 := congrArg List.length hct; rw [i64s_length] at h2; rw [List.length_take] at h2; simp only [Array.length_toList] at h2; omega
    have r1 : (W3.setCell ⟨g, 7, none⟩ (.slice (some ⟨gB, 0, none⟩) fit.length uc)).cell? ⟨gB, 1, none⟩ = some cur[1] := by rw [hcB.cell]; exact Array.getElem?_eq_getElem hyz
    have r2 := hcB.frozen 1
    have hi1 : (1 : Int) < (fit.length : Int) := by omega
    have hi2 : 1 < fit.length := by omega
    have HM5 := Lib.hid hM5
    have HK4 := Lib.hid ((HK2.out.trans (Frm.of_below (S := Zt g gs) hb23) fun _ h => .inl h).set (p := ⟨g, 7, none⟩) (.inl (.inl rfl)) (.slice (some ⟨gB, 0, none⟩) fit.length uc))
    have HK5 := Lib.hid (HK4.out.set (p := ⟨gB, 1, none⟩) (.inr (Nat.le_trans HK2.out.size hgb)) (.int .i64 (j : Int)))
    generalize cur[1] = cu at r1
    clear hmade hab0 hba hfr hfn hfl hmx hbt hv1 hg1 hb23 hgb hgl hcB hcs hct hyz g0 g1 g2 g3 g4 b3 b7 f7 hfi3 hM4 ho4 hM5 h2f HK4
    generalize W3.setCell ⟨g, 7, none⟩ (.slice (some ⟨gB, 0, none⟩) fit.length uc) = W4 at HM5 HK5 b7' r1 r2 ⊢
    go_wp2_with fail
    first | (refine bodyPost_ret (results_none (by rfl) _ _ _) (by rfl) ?_) | (refine bodyPost_end (results_none (by rfl) _ _ _) (by rfl) ?_)
    exact ⟨rfl, _, _, _, _, (show some (fit.set 1 (j : Int)) = better none fit j from rfl) ▸ .mt y HST.out HY.out HOP.out, HM5.out, HK5.out, (by have := HSL.out; omega)⟩
  · obtain ⟨vb, vo, vc, rfl, _, _, hvb, hvz, hvc⟩ := hbf
    go_upto_region 2 with fail
    clear hw1 hw2
    go_upto_region 3 with fail
    generalize W.setCell ⟨gs, a, none⟩ (.bool true) = W1 at HM1 HK1 HW1 e0' c4 c5 c6 c7 c8 ⊢
    clear b0 b3 b4 b5 b6 b7 c2 f2
    go_upto_region 4 with fail
    have hbx := Blk.new W1 64 #[.int .i64 y.op, .int .i64 y.out, .int .i64 y.arg, .slice y.A y.n y.c, .int .i64 y.at_]
    have g0 := hbx.cell 0
    have g1 := hbx.cell 1
    have g2 := hbx.cell 2
    have g3 := hbx.cell 3
    have g4 := hbx.cell 4
    simp only [List.getElem?_toArray, List.getElem?_cons_zero, List.getElem?_cons_succ] at g0 g1 g2 g3 g4
    have hb12 : Below W1.heap.size W1 (W1.alloc (.cells #[.int .i64 y.op, .int .i64 y.out, .int .i64 y.arg, .slice y.A y.n y.c, .int .i64 y.at_] 64)) := (Below.refl _ _).alloc (Nat.le_refl _) _
    have HM2 := Lib.hid (HM1.out.below hb12)
    have HK2 := Lib.hid (HK1.out.trans (Frm.of_below (S := Zt g gs) hb12) fun _ h => .inl h)
    have HW2 := Lib.hid (HW1.out.trans (hb12.mono HM1.out.bw))
    have HXG := Lib.hid (And.intro (Blk.ne hbx HM2.out.box (by decide)) (Blk.ne hbx HM2.out.seen (by decide)))
    have HBX := Lib.hid hbx
    have b3 := HM2.out.box.cell 3
    have b7 := HM2.out.box.cell 7
    have f7 := HM2.out.box.frozen 7
    simp only [List.getElem?_toArray, List.getElem?_cons_zero, List.getElem?_cons_succ] at b3 b7
    clear hbx hb12 e0' c4 c5 c6 c7 c8 HM1 HK1 HW1
    generalize W1.alloc (.cells #[.int .i64 y.op, .int .i64 y.out, .int .i64 y.arg, .slice y.A y.n y.c, .int .i64 y.at_] 64) = W2 at g0 g1 g2 g3 g4 HM2 HK2 HW2 HBX b3 b7 f7 ⊢
    generalize W1.heap.size = gx at g0 g1 g2 g3 g4 HBX HXG ⊢
    rw [HOP.out] at g0
    have hbf2 := HM2.out.best
    obtain ⟨ub, uo, uc0, hue, _, _, _, _, huc⟩ := hbf2
    obtain ⟨rfl, rfl, rfl⟩ : vb = ub ∧ vo = uo ∧ vc = uc0 := (by injection hue with h1 _ h2; injection h1 with h1; injection h1 with h1 h3; exact ⟨h1, h3, h2⟩)
    have h2c := HM2.out.bl cb rfl
    have k1 := huc 1 (cb[1]?.getD 0) (by rw [List.getElem?_eq_getElem (by omega)]; rfl)
    have hc1i : (1 : Int) < (cb.length : Int) := by omega
    have hc1n : 1 < cb.length := by omega
    obtain ⟨x1, hx1⟩ : ∃ x1, x1 = cb[1]?.getD 0 := ⟨_, rfl⟩
    rw [← hx1] at k1
    have HX1 := Lib.hid hx1
    clear hx1 huc hue h2c
    by_cases hlt : x1 < (j : Int)
    · have HBT : Hid (better (some cb) fit j = some (fit.set 1 (j : Int))) := Lib.hid (by unfold better; exact if_pos (by rw [← HX1.out]; exact hlt))
      go_upto_region 7 with fail
      have hmade := World.ownsRow_made (base := W2.heap.size) (size := 1) (e := 3) W2 #[] 0 (Nat.le_refl _) (Nat.zero_le _) rfl
      have hab0 := fun k hk => (hmade.lt k hk).1
      have hba : Below W2.heap.size W2 (W2.alloc (.cells #[] 3)) := (Below.refl _ _).alloc (Nat.le_refl _) _
      have hfi2 := (HFI.out.frm HK2.out (fun _ h => h) fun _ h => .inl h).il
      have hfr := (hfi2.below hba).rd
      have hfn := hfi2.nil
      have hfl : (i64s fit).length = fit.length * 1 := by rw [i64s_length, Nat.mul_one]
      have hmx : 0 + fit.length ≤ maxLen := by unfold maxLen; have := HFC.out; have := HCP.out; omega
      have hbt : (0 + fit.length) * 8 ≤ 140737488355328 := by have := HFC.out; have := HCP.out; omega
      clear hfi2
      go_upto_region 8 with (at_builtin; refine wpList_app _ rfl _ _ 35 rfl W2.heap.size 3 elIt _ _ _ rfl hmade 0 _ F fit.length fc (i64s fit) rfl hfn hfl hfr (i64s_one fit) hmx hbt (by simp) ?_; intro v1 W3 hv1 hg1 _ _; simp only [Nat.zero_add, List.nil_append] at hv1; obtain ⟨uA, uc, rfl, _, _⟩ := own_form hv1; have hb23 : Below W2.heap.size W2 W3 := hba.grown hg1 (by simp) hab0; obtain ⟨gB, ucap, hve, hgb, hgl⟩ := hv1.form (by have := HFC.out; have := HCP.out; omega); obtain ⟨rfl, rfl⟩ : uA = some ⟨gB, 0, none⟩ ∧ uc = ucap := (by injection hve with h1 _ h2; exact ⟨h1, h2⟩); have f7 := (HM2.out.below hb23).box.frozen 7; have b7 := (HM2.out.below hb23).box.cell 7; simp only [List.getElem?_toArray, List.getElem?_cons_zero, List.getElem?_cons_succ] at b7)
      have h2f : 2 ≤ fit.length := by have := HFC.out; have := HCP.out; omega
      have hfi3 : FitIn W3 (Zt g gs) (.slice (some ⟨gB, 0, none⟩) fit.length uc) fit := FitIn.of_own hv1 (by omega) fun k hk => (by rcases hk with rfl | rfl; exact HM2.out.box.lt; exact HM2.out.seen.lt)
      have hM4 := (HM2.out.below hb23).keep hfi3 h2f
      have ho4 := own_far1 hv1 (HM2.out.below hb23).box (by decide) 7 (.slice (some ⟨gB, 0, none⟩) fit.length uc)
      have hM5 := hM4.best1 ho4 HM2.out.box.lt HM2.out.seen.lt h2f (j : Int)
      have b7' := hM4.box.cell 7
      simp only [List.getElem?_toArray, List.getElem?_cons_zero, List.getElem?_cons_succ] at b7'
      obtain ⟨cur, hcB, _, hcs, hct, _, _⟩ := own_blk ho4
      have hyz : 1 < cur.size := by have := ho4.1; have h2 := congrArg List.length hct; rw [i64s_length] at h2; rw [List.length_take] at h2; simp only [Array.length_toList] at h2; omega
      have r1 : (W3.setCell ⟨g, 7, none⟩ (.slice (some ⟨gB, 0, none⟩) fit.length uc)).cell? ⟨gB, 1, none⟩ = some cur[1] := by rw [hcB.cell]; exact Array.getElem?_eq_getElem hyz
      have r2 := hcB.frozen 1
      have hi1 : (1 : Int) < (fit.length : Int) := by omega
      have hi2 : 1 < fit.length := by omega
      have HM5 := Lib.hid hM5
      have HK4 := Lib.hid ((HK2.out.trans (Frm.of_below (S := Zt g gs) hb23) fun _ h => .inl h).set (p := ⟨g, 7, none⟩) (.inl (.inl rfl)) (.slice (some ⟨gB, 0, none⟩) fit.length uc))
      have HK5 := Lib.hid (HK4.out.set (p := ⟨gB, 1, none⟩) (.inr (Nat.le_trans HK2.out.size hgb)) (.int .i64 (j : Int)))
      generalize cur[1] = cu at r1
      clear hmade hab0 hba hfr hfn hfl hmx hbt hv1 hg1 hb23 hgb hgl hcB hcs hct hyz g0 g1 g2 g3 g4 b3 b7 f7 hfi3 hM4 ho4 hM5 h2f HK4
      generalize W3.setCell ⟨g, 7, none⟩ (.slice (some ⟨gB, 0, none⟩) fit.length uc) = W4 at HM5 HK5 b7' r1 r2 ⊢
      go_wp2_with fail
      first | (refine bodyPost_ret (results_none (by rfl) _ _ _) (by rfl) ?_) | (refine bodyPost_end (results_none (by rfl) _ _ _) (by rfl) ?_)
      exact ⟨rfl, _, _, _, _, HBT.out ▸ .mt y HST.out HY.out HOP.out, HM5.out, HK5.out, (by have := HSL.out; omega)⟩
    · have HBT : Hid (better (some cb) fit j = some cb) := Lib.hid (by unfold better; exact if_neg (by rw [← HX1.out]; exact hlt))
      go_wp2_with fail
      first | (refine bodyPost_ret (results_none (by rfl) _ _ _) (by rfl) ?_) | (refine bodyPost_end (results_none (by rfl) _ _ _) (by rfl) ?_)
      have hdf : Dfs L (TP (full m e0)) (RP (full m e0)) true N V (some cb) (q : Int) j fit (V.add j ((q : Int), fit)) (better (some cb) fit j) := .mt y HST.out HY.out HOP.out
      rw [HBT.out] at hdf
      exact ⟨rfl, _, _, _, _, hdf, HM2.out, HK2.out, (by have := HSL.out; omega)⟩

theorem th_any {w0 : World} {g gs : Nat} {PA : Option Addr} {n pcap : Nat} {st cp : Int} {gi N : Nat} {lng : Bool} {L : List MI} {m : List (Int × Nat)} {e0 : Nat} {sx : List UInt8} {lo U : Nat}
    (hP : PgIn w0 PA n pcap L) (hOK : ∀ x ∈ L, InstOK (n : Int) cp x) (hI : RefAt w0 lo U gi m e0 sx) (hU : U ≤ w0.heap.size) (hN : m.length = N) (hrn : ∀ p ∈ m, 0 ≤ p.1) (hNb : N ≤ 100000) (hn : n ≤ 10000) (hcp : 2 ≤ cp ∧ cp ≤ 1000000) (M : Nat) : ThH w0 g gs PA n pcap st cp gi N lng L (full m e0) M := by
  induction M with
  | zero => intro W V B bv b pc j F fc fit _ _ _ _ _ _ _ h; omega
  | succ M ih =>
    intro W V B bv b pc j F fc fit hM hb0 hF hfc hp0 hp1 hj hlt
    obtain ⟨q, rfl⟩ : ∃ q : Nat, pc = (q : Int) := ⟨pc.toNat, by omega⟩
    have hq : q < n := by omega
    by_cases hj2 : N < j
    · exact th_late hM hq hj2 hj hNb hn
    have hj3 : j ≤ N := by omega
    cases hin : inT (V j) (q : Int) with
    | true => exact th_seen hM hq hj3 hin hNb hn
    | false =>
    have hnd : (b = none ∨ lng = true) ∨ ∃ cb, b = some cb ∧ lng = false := by
      cases b with
      | none => exact .inl (.inl rfl)
      | some cb =>
        cases lng with
        | true => exact .inl (.inr rfl)
        | false => exact .inr ⟨cb, rfl, rfl⟩
    rcases hnd with hnd | ⟨cb, rfl, rfl⟩
    case inr => exact th_done hM hq hj3 hin hNb hn
    have HC : ThH w0 g gs PA n pcap st cp gi N lng L (full m e0) (B.count false) := fun W V B bv b pc j F fc fit a1 a2 a3 a4 a5 a6 a7 a8 => ih W V B bv b pc j F fc fit a1 a2 a3 a4 a5 a6 a7 (by omega)
    have hql : q < L.length := by rw [hP.len]; exact hq
    have hy : L[q]? = some L[q] := List.getElem?_eq_getElem hql
    have hox := hOK L[q] (List.getElem_mem hql)
    generalize L[q] = y at hy hox
    unfold InstOK at hox
    have hop : y.op = 1 ∨ y.op = 2 ∨ y.op = 3 ∨ y.op = 4 ∨ y.op = 5 ∨ y.op = 6 := by omega
    rcases hop with h | h | h | h | h | h
    · exact th_op1 HC hM hb0 hF hfc hq hj3 hin hnd hP hOK hI hU hN hrn hNb hn hcp hy h
    · cases hT : RP (full m e0) j y with
      | true => exact th_op2t HC hM hb0 hF hfc hq hj3 hin hnd hP hOK hI hU hN hrn hNb hn hcp hy h hT
      | false => exact th_op2f HC hM hb0 hF hfc hq hj3 hin hnd hP hOK hI hU hN hrn hNb hn hcp hy h hT
    · exact th_op3 HC hM hb0 hF hfc hq hj3 hin hnd hP hOK hI hU hN hrn hNb hn hcp hy h
    · exact th_op4 HC hM hb0 hF hfc hq hj3 hin hnd hP hOK hI hU hN hrn hNb hn hcp hy h
    · cases hT : TP (full m e0) j y with
      | true => exact th_op5t HC hM hb0 hF hfc hq hj3 hin hnd hP hOK hI hU hN hrn hNb hn hcp hy h hT
      | false => exact th_op5f HC hM hb0 hF hfc hq hj3 hin hnd hP hOK hI hU hN hrn hNb hn hcp hy h hT
    · exact th_op6 HC hM hb0 hF hfc hq hj3 hin hnd hP hOK hI hU hN hrn hNb hn hcp hy h
end Go.Proofs.YtbhcgjahlfpjoaaDoor
namespace Go.Proofs.YtbhcgjahlfpjoaaDoor
open Go.RowKit

theorem elBo : ElemOK Tryd.prog 120 4 1 1 := .mk' (z := .bool false) Tryd.underlying120 (by kernel_rfl) rfl (by decide)
theorem mkBits (w : World) {n : Nat} (hn : n ≤ 1000000) : (Instr.makeSlice 120 (.int .i64 (n : Int)) (.int .i64 (n : Int))).run Tryd.prog w = .ok (.slice (some ⟨w.heap.size, 0, none⟩) n n) (w.alloc (.cells (Array.replicate n (Value.bool false)) 4)) := by
  have hI : (Tryd.prog.info? 4).map (fun i => (i.zero, i.size, i.bytes)) = some (some (.bool false), 1, 1) := by kernel_rfl
  obtain ⟨i, h1, h2, h3, h4⟩ := info_parts hI
  have := run_make (P := Tryd.prog) w 120 4 i (.bool false) elBo.ht h1 h2 .i64 .i64 n n (by omega) (Int.le_refl _) (by rw [h4]; omega) (by omega)
  rw [this, h3, Int.toNat_natCast, Nat.mul_one]
  have e : madeCells (Value.bool false).cells n = Array.replicate n (Value.bool false) := by
    apply Array.ext'
    show (madeCells #[Value.bool false] n).toList = _
    rw [toList_madeCells_one]
    simp
  rw [e]
theorem repL_set {c j : Nat} (h : j < c) : (repL c j).toArray.setIfInBounds j (.int .i64 (-1)) = (repL c (j + 1)).toArray := by
  apply Array.ext'
  rw [Array.toList_setIfInBounds]
  show (repL c j).set j _ = repL c (j + 1)
  apply List.ext_getElem?
  intro i
  unfold repL
  rw [List.getElem?_set]
  simp only [List.length_append, List.length_replicate]
  by_cases h1 : j = i
  · subst h1
    rw [if_pos rfl, if_pos (by omega), List.getElem?_append_left (by simp), List.getElem?_replicate, if_pos (by omega)]
  · rw [if_neg h1]
    by_cases h2 : i < j
    · rw [List.getElem?_append_left (by simpa using h2), List.getElem?_append_left (by simp; omega), List.getElem?_replicate, List.getElem?_replicate, if_pos h2, if_pos (by omega)]
    · rw [List.getElem?_append_right (by simp; omega), List.getElem?_append_right (by simp; omega), List.getElem?_replicate, List.getElem?_replicate]
      simp only [List.length_replicate]
      by_cases h3 : i < c
      · rw [if_pos (by omega), if_pos (by omega)]
      · rw [if_neg (by omega), if_neg (by omega)]
theorem repL_fit (c s : Nat) : (repL c c).toArray.setIfInBounds 0 (.int .i64 (s : Int)) = (i64s (fit0 (c : Int) s)).toArray := by
  apply Array.ext'
  rw [Array.toList_setIfInBounds]
  show (repL c c).set 0 _ = i64s (fit0 (c : Int) s)
  unfold repL i64s fit0
  rw [List.map_set, List.map_replicate, Int.toNat_natCast, Nat.sub_self, List.replicate_zero, List.append_nil]
theorem ThM.far0 {b0 : Nat} {W : World} {g gs : Nat} {PA : Option Addr} {n pcap : Nat} {st cp : Int} {gi N : Nat} {lng : Bool} {B : List Bool} {V : Lev} {bv : Value} (h : ThM b0 W g gs PA n pcap st cp gi N lng B V bv none) {p : Addr} (h1 : p.block ≠ g) (h2 : p.block ≠ gs) (u : Value) : ThM b0 (W.setCell p u) g gs PA n pcap st cp gi N lng B V bv none :=
  ⟨h.box.far (Ne.symm h1) _, h.seen.far (Ne.symm h2) _, h.len, h.bits, h.best, h.bl, h.bg, h.bs, by simp only [World.setCell, Array.size_modify]; exact h.bw⟩
/-- What the document tells: the match, or none. -/
def TellB (w : World) (R : Option (List Int)) (e : Ending) (w' : World) : Prop := ∃ v, e = .returned (.tuple #[v, .bool R.isSome]) ∧ BestF w' (fun _ => False) v R ∧ Below w.heap.size w w'
theorem bits0 (N n : Nat) : ∀ j pc, j ≤ N → pc < n → (List.replicate ((N + 1) * n) false)[j * n + pc]? = some (inT ((fun _ => []) j) (pc : Int)) := fun j pc hj hp => by
  rw [List.getElem?_replicate, if_pos (bit_lt hj hp)]
  rfl
set_option maxRecDepth 20000 in
set_option maxHeartbeats 4000000 in
theorem run12_any {w : World} {PA : Option Addr} {n pcap : Nat} {st : Int} {c : Nat} {L : List MI} {m : List (Int × Nat)} {e0 : Nat} {sx : List UInt8} {lo U gi N s : Nat} (lng : Bool)
    (hP : PgIn w PA n pcap L) (hOK : PgOK n st (c : Int) L) (hI : RefAt w lo U gi m e0 sx) (hU : U ≤ w.heap.size) (hN : m.length = N) (hrn : ∀ p ∈ m, 0 ≤ p.1) (hNb : N ≤ 100000) (hK : (N + 1) * n ≤ 1000000) (hs : s ≤ N) :
    Calls Tryd.prog 34 #[.agg #[.slice PA n pcap, .int .i64 st, .int .i64 (c : Int)], .pointer (some ⟨gi, 0, none⟩), .int .i64 (s : Int), .int .i64 (N : Int), .bool lng] w (TellB w (atG L (full m e0) st c lng ((full m e0).length - s) s)) := by
  have q1 := Blk.new w 28 #[.slice PA n pcap, .int .i64 st, .int .i64 (c : Int)]
  have b1 : Below w.heap.size w (w.alloc (.cells #[.slice PA n pcap, .int .i64 st, .int .i64 (c : Int)] 28)) := (Below.refl _ _).alloc (Nat.le_refl _) _
  have hcN : 2 ≤ c ∧ c ≤ 4002 := by have := hOK.2.2.2.2.1; have := hOK.2.2.2.2.2.1; omega
  obtain ⟨KK, hKe⟩ : ∃ KK, KK = (N + 1) * n := ⟨_, rfl⟩
  have hKb : KK ≤ 1000000 := by rw [hKe]; exact hK
  have hN1 : IntKind.i64.wrap ((N : Int) + 1) = ((N + 1 : Nat) : Int) := by rw [show ((N : Int) + 1) = ((N + 1 : Nat) : Int) by omega]; exact IntWalk.i64_in _ (by omega)
  have hK1 : IntKind.i64.wrap ((n : Int) * ((N + 1 : Nat) : Int)) = (KK : Int) := by rw [mulN, Nat.mul_comm, ← hKe]; exact IntWalk.i64_in _ (by omega)
  have hcI : (c : Int) ≤ 9223372036854775807 := by omega
  have hmin : min (N : Int) (N : Int) = (N : Int) := Int.min_self _
  have hnp := hP.max
  have hnq := hP.le
  unfold maxLen at hnp
  obtain ⟨M1, hM1⟩ : ∃ M1, M1 = N + 1 := ⟨_, rfl⟩
  rw [← hM1] at hN1 hK1
  have HP := Lib.hid hP
  have HOK := Lib.hid hOK
  have HI := Lib.hid hI
  have HU := Lib.hid hU
  have HN := Lib.hid hN
  have HRN := Lib.hid hrn
  have HNB := Lib.hid hNb
  have HKE := Lib.hid hKe
  have HKB := Lib.hid hKb
  have HS := Lib.hid hs
  have HCN := Lib.hid hcN
  clear hP hOK hI hU hN hrn hNb hK hs hKe hKb hM1 hcN
  go_enter Tryd.func34, Tryd.ntmps34
  go_upto_region 1 with fail
  generalize w.alloc (.cells #[.slice PA n pcap, .int .i64 st, .int .i64 (c : Int)] 28) = w1 at q1 b1 ⊢
  have Q1 := Lib.hid q1
  have B1 := Lib.hid b1
  clear q1 b1
  have hS : (fun w' => w'.cell? ⟨w.heap.size, 0, none⟩ = some (.slice PA n pcap) ∧ w'.cell? ⟨w.heap.size, 1, none⟩ = some (.int .i64 st) ∧ w'.cell? ⟨w.heap.size, 2, none⟩ = some (.int .i64 (c : Int))) w1.drew := And.intro (Q1.out.cell 0) (And.intro (Q1.out.cell 1) (Q1.out.cell 2))
  have HI1 := Lib.hid (HI.out.same (.of_below B1.out.drew HU.out))
  have hl1 := refLen_any HI1.out
  rw [HN.out] at hl1
  obtain ⟨W2, hW2⟩ : ∃ W2, W2 = (w1.alloc (.cells (Array.replicate KK (.bool false)) 4)).drew := ⟨_, rfl⟩
  have HQ2 : Hid (Blk W2 w.heap.size 28 #[.slice PA n pcap, .int .i64 st, .int .i64 (c : Int)]) := Lib.hid (by rw [hW2]; exact (Q1.out.alloc _).drew)
  have HB2 : Hid (Blk W2 w1.heap.size 4 ((List.replicate KK false).map Value.bool).toArray) := Lib.hid (by rw [hW2, show ((List.replicate KK false).map Value.bool).toArray = Array.replicate KK (Value.bool false) by simp]; exact (Blk.new w1 _ _).drew)
  have HD2 : Hid (Below w.heap.size w W2) := Lib.hid (by rw [hW2]; exact (B1.out.alloc B1.out.size _).drew)
  have HZ2 : Hid (W2.heap.size = w1.heap.size + 1) := Lib.hid (by rw [hW2]; simp)
  have HW2 := Lib.hid hW2
  obtain ⟨W3, hW3⟩ : ∃ W3, W3 = W2.alloc (.cells #[.slice PA n pcap, .int .i64 st, .int .i64 (c : Int), .pointer (some ⟨gi, 0, none⟩), .int .i64 (N : Int), .bool lng, .slice (some ⟨w1.heap.size, 0, none⟩) KK KK, .slice none 0 0] 122) := ⟨_, rfl⟩
  have hb23 : Below W2.heap.size W2 W3 := by rw [hW3]; exact (Below.refl _ _).alloc (Nat.le_refl _) _
  have HQ3 := Lib.hid (HQ2.out.below hb23 HQ2.out.lt)
  have HB3 := Lib.hid (HB2.out.below hb23 HB2.out.lt)
  have HT3 : Hid (Blk W3 (w1.heap.size + 1) 122 #[.slice PA n pcap, .int .i64 st, .int .i64 (c : Int), .pointer (some ⟨gi, 0, none⟩), .int .i64 (N : Int), .bool lng, .slice (some ⟨w1.heap.size, 0, none⟩) KK KK, .slice none 0 0]) := Lib.hid (by rw [hW3, ← HZ2.out]; exact Blk.new W2 _ _)
  have HD3 := Lib.hid (HD2.out.trans (hb23.mono HD2.out.size))
  have HZ3 : Hid (W3.heap.size = w1.heap.size + 2) := Lib.hid (by rw [hW3]; simp [HZ2.out])
  have HW3 := Lib.hid hW3
  have HG1 := Lib.hid B1.out.size
  clear hW2 hW3 hb23
  refine wp_region_U (S := fun w' => w'.cell? ⟨w.heap.size, 0, none⟩ = some (.slice PA n pcap) ∧ w'.cell? ⟨w.heap.size, 1, none⟩ = some (.int .i64 st) ∧ w'.cell? ⟨w.heap.size, 2, none⟩ = some (.int .i64 (c : Int))) (t := 99) (by kernel_rfl) ?_
  refine wpAnyU_take (i := 0) (v := ?_) rfl (by kernel_rfl) (by kernel_rfl) (by kernel_rfl) (fun _ _ _ h => h) (by kernel_rfl) (Or.inl ⟨by rfl, ?_⟩) hS ?_
  rotate_left
  · (intro w hS; obtain ⟨s1, s2, s3⟩ := hS; go_simp; try with_reducible rfl)
  try simp only [List.getElem_toArray, List.getElem_cons_zero, Act.put, List.setIfInBounds_toArray, List.set_cons_zero, List.set_cons_succ]
  refine wpAnyU_pure (i := 1) (v := ?_) rfl (by kernel_rfl) (by kernel_rfl) (by kernel_rfl) (fun _ _ _ h => h) (by kernel_rfl) (Or.inl ⟨by rfl, ?_⟩) (Or.inr hS) ?_
  rotate_left
  · (intro w _; go_simp; try with_reducible rfl)
  try simp only [List.getElem_toArray, List.getElem_cons_succ, List.getElem_cons_zero, Act.put, List.setIfInBounds_toArray, List.set_cons_zero, List.set_cons_succ]
  refine wpAnyU_pure (i := 2) (v := ?_) rfl (by kernel_rfl) (by kernel_rfl) (by kernel_rfl) (fun _ _ _ h => h) (by kernel_rfl) (Or.inl ⟨by rfl, ?_⟩) (Or.inr hS) ?_
  rotate_left
  · (intro w _; go_simp; try with_reducible rfl)
  try simp only [List.getElem_toArray, List.getElem_cons_succ, List.getElem_cons_zero, Act.put, List.setIfInBounds_toArray, List.set_cons_zero, List.set_cons_succ]
  refine wpAnyU_pure (i := 3) (v := ?_) rfl (by kernel_rfl) (by kernel_rfl) (by kernel_rfl) (fun _ _ _ h => h) (by kernel_rfl) (Or.inl ⟨by rfl, ?_⟩) (Or.inr hS) ?_
  rotate_left
  · (intro w _; go_simp; try with_reducible rfl)
  try simp only [List.getElem_toArray, List.getElem_cons_succ, List.getElem_cons_zero, Act.put, List.setIfInBounds_toArray, List.set_cons_zero, List.set_cons_succ]
  refine wpAnyU_pure (i := 6) (v := ?_) rfl (by kernel_rfl) (by kernel_rfl) (by kernel_rfl) (fun _ _ _ h => h) (by kernel_rfl) (Or.inl ⟨by rfl, ?_⟩) (Or.inr hS) ?_
  rotate_left
  · (intro w _; go_simp; try with_reducible rfl)
  try simp only [List.getElem_toArray, List.getElem_cons_succ, List.getElem_cons_zero, Act.put, List.setIfInBounds_toArray, List.set_cons_zero, List.set_cons_succ]
  refine wpAnyU_pure (i := 7) (v := ?_) rfl (by kernel_rfl) (by kernel_rfl) (by kernel_rfl) (fun _ _ _ h => h) (by kernel_rfl) (Or.inl ⟨by rfl, ?_⟩) (Or.inr hS) ?_
  rotate_left
  · (intro w _; go_simp; try with_reducible rfl)
  try simp only [List.getElem_toArray, List.getElem_cons_succ, List.getElem_cons_zero, Act.put, List.setIfInBounds_toArray, List.set_cons_zero, List.set_cons_succ]
  refine wpAnyU_take (i := 8) (v := ?_) rfl (by kernel_rfl) (by kernel_rfl) (by kernel_rfl) (fun _ _ _ h => h) (by kernel_rfl) (Or.inl ⟨by rfl, ?_⟩) hS ?_
  rotate_left
  · (intro w hS; obtain ⟨s1, s2, s3⟩ := hS; go_simp; try with_reducible rfl)
  try simp only [List.getElem_toArray, List.getElem_cons_succ, List.getElem_cons_zero, Act.put, List.setIfInBounds_toArray, List.set_cons_zero, List.set_cons_succ]
  refine wpAnyU_take (i := 9) (v := ?_) rfl (by kernel_rfl) (by kernel_rfl) (by kernel_rfl) (fun _ _ _ h => h) (by kernel_rfl) (Or.inl ⟨by rfl, ?_⟩) hS ?_
  rotate_left
  · (intro w hS; obtain ⟨s1, s2, s3⟩ := hS; go_simp; try with_reducible rfl)
  try simp only [List.getElem_toArray, List.getElem_cons_succ, List.getElem_cons_zero, Act.put, List.setIfInBounds_toArray, List.set_cons_zero, List.set_cons_succ]
  refine wpAnyU_pure (i := 10) (v := ?_) rfl (by kernel_rfl) (by kernel_rfl) (by kernel_rfl) (fun _ _ _ h => h) (by kernel_rfl) (Or.inl ⟨by rfl, ?_⟩) (Or.inr hS) ?_
  rotate_left
  · (intro w _; go_simp; try with_reducible rfl)
  try simp only [List.getElem_toArray, List.getElem_cons_succ, List.getElem_cons_zero, Act.put, List.setIfInBounds_toArray, List.set_cons_zero, List.set_cons_succ]
  refine wpAnyU_one (i := 4) (by kernel_rfl) rfl (fun K hK => ?_)
  go_simp
  with_reducible refine hl1.mono ?_
  rintro e w' ⟨rfl, rfl⟩
  go_simp
  replace hS := hS
  refine hK _ _ (Or.inr hS) ?_
  clear hK K
  try simp only [Array.getInternal_eq_getElem, List.getElem_toArray, List.getElem_cons_succ, List.getElem_cons_zero, Act.put, List.setIfInBounds_toArray, List.set_cons_zero, List.set_cons_succ]
  refine wpAnyU_take (i := 5) (v := ?_) rfl (by kernel_rfl) (by kernel_rfl) (by kernel_rfl) (fun _ _ _ h => h) (by kernel_rfl) (Or.inl ⟨by rfl, ?_⟩) hS ?_
  rotate_left
  · (intro w hS; obtain ⟨s1, s2, s3⟩ := hS; go_simp; try with_reducible rfl)
  try simp only [List.getElem_toArray, List.getElem_cons_succ, List.getElem_cons_zero, Act.put, List.setIfInBounds_toArray, List.set_cons_zero, List.set_cons_succ]
  refine wpAnyU_one (i := 11) (by kernel_rfl) rfl (fun K hK => ?_)
  go_simp
  with_reducible refine hl1.mono ?_
  rintro e w' ⟨rfl, rfl⟩
  go_simp
  replace hS := hS
  refine hK _ _ (Or.inr hS) ?_
  clear hK K
  try simp only [Array.getInternal_eq_getElem, List.getElem_toArray, List.getElem_cons_succ, List.getElem_cons_zero, Act.put, List.setIfInBounds_toArray, List.set_cons_zero, List.set_cons_succ]
  refine wpAnyU_pure (i := 12) (v := ?_) rfl (by kernel_rfl) (by kernel_rfl) (by kernel_rfl) (fun _ _ _ h => h) (by kernel_rfl) (Or.inl ⟨by rfl, ?_⟩) (Or.inr hS) ?_
  rotate_left
  · (intro w _; go_simp; try with_reducible rfl)
  try simp only [List.getElem_toArray, List.getElem_cons_succ, List.getElem_cons_zero, Act.put, List.setIfInBounds_toArray, List.set_cons_zero, List.set_cons_succ]
  refine wpAnyU_pure (i := 13) (v := ?_) rfl (by kernel_rfl) (by kernel_rfl) (by kernel_rfl) (fun _ _ _ h => h) (by kernel_rfl) (Or.inl ⟨by rfl, ?_⟩) (Or.inr hS) ?_
  rotate_left
  · (intro w _; go_simp; try with_reducible rfl)
  try simp only [List.getElem_toArray, List.getElem_cons_succ, List.getElem_cons_zero, Act.put, List.setIfInBounds_toArray, List.set_cons_zero, List.set_cons_succ]
  refine wpAnyU_one (i := 14) (by kernel_rfl) rfl (fun K hK => ?_)
  go_simp
  rw [mkBits _ HKB.out]
  go_simp
  rw [← HW2.out]
  replace hS := And.intro (HQ2.out.cell 0) (And.intro (HQ2.out.cell 1) (HQ2.out.cell 2))
  refine hK _ _ (Or.inr hS) ?_
  clear hK K
  try simp only [Array.getInternal_eq_getElem, List.getElem_toArray, List.getElem_cons_succ, List.getElem_cons_zero, Act.put, List.setIfInBounds_toArray, List.set_cons_zero, List.set_cons_succ]
  refine wpAnyU_pure (i := 15) (v := ?_) rfl (by kernel_rfl) (by kernel_rfl) (by kernel_rfl) (fun _ _ _ h => h) (by kernel_rfl) (Or.inl ⟨by rfl, ?_⟩) (Or.inr hS) ?_
  rotate_left
  · (intro w _; go_simp; try with_reducible rfl)
  try simp only [List.getElem_toArray, List.getElem_cons_succ, List.getElem_cons_zero, Act.put, List.setIfInBounds_toArray, List.set_cons_zero, List.set_cons_succ]
  refine wpAnyU_one (i := 16) (by kernel_rfl) rfl (fun K hK => ?_)
  go_simp
  rw [HZ2.out, ← HW3.out]
  replace hS := And.intro (HQ3.out.cell 0) (And.intro (HQ3.out.cell 1) (HQ3.out.cell 2))
  refine hK _ _ (Or.inr hS) ?_
  clear hK K
  try simp only [Array.getInternal_eq_getElem, List.getElem_toArray, List.getElem_cons_succ, List.getElem_cons_zero, Act.put, List.setIfInBounds_toArray, List.set_cons_zero, List.set_cons_succ]
  refine wpAnyU_pure (i := 17) (v := ?_) rfl (by kernel_rfl) (by kernel_rfl) (by kernel_rfl) (fun _ _ _ h => h) (by kernel_rfl) (Or.inl ⟨by rfl, ?_⟩) (Or.inr hS) ?_
  rotate_left
  · (intro w _; go_simp; try with_reducible rfl)
  try simp only [List.getElem_toArray, List.getElem_cons_succ, List.getElem_cons_zero, Act.put, List.setIfInBounds_toArray, List.set_cons_zero, List.set_cons_succ]
  refine wpAnyU_done (by kernel_rfl) ?_ _
  clear hS hl1
  have hM3 : ThM w.heap.size W3 (w1.heap.size + 1) w1.heap.size PA n pcap st (c : Int) gi N lng (List.replicate KK false) (fun _ => []) (.slice none 0 0) none := ⟨by have := HT3.out; rw [HKE.out] at this; exact this, HB3.out, by rw [List.length_replicate]; exact HKE.out, by rw [HKE.out]; exact bits0 N n, rfl, (fun _ h => by cases h), by have := HG1.out; omega, HG1.out, HD3.out.size⟩
  have HM3 := Lib.hid hM3
  clear hM3
  have k2 := HQ3.out.cell 2
  simp only [List.getElem?_toArray, List.getElem?_cons_zero, List.getElem?_cons_succ] at k2
  go_wp2_with fail
  simp only [mkIntsT _ (show c ≤ 1000000 by have := HCN.out; omega), Result.andThen_ok]
  have hb34 : Below W3.heap.size W3 (W3.alloc (.cells (Array.replicate c (.int .i64 0)) 3)) := (Below.refl _ _).alloc (Nat.le_refl _) _
  have HST : Hid (ThM w.heap.size (W3.alloc (.cells (Array.replicate c (.int .i64 0)) 3)) (w1.heap.size + 1) w1.heap.size PA n pcap st (c : Int) gi N lng (List.replicate KK false) (fun _ => []) (.slice none 0 0) none ∧ Blk (W3.alloc (.cells (Array.replicate c (.int .i64 0)) 3)) (w1.heap.size + 2) 3 (repL c 0).toArray ∧ Blk (W3.alloc (.cells (Array.replicate c (.int .i64 0)) 3)) w.heap.size 28 #[.slice PA n pcap, .int .i64 st, .int .i64 (c : Int)] ∧ Below w.heap.size w (W3.alloc (.cells (Array.replicate c (.int .i64 0)) 3))) := Lib.hid ⟨HM3.out.below hb34, by rw [← HZ3.out, show (repL c 0).toArray = Array.replicate c (Value.int .i64 0) by simp [repL]]; exact Blk.new W3 _ _, HQ3.out.below hb34 HQ3.out.lt, HD3.out.trans (hb34.mono HD3.out.size)⟩
  clear hb34 k2
  go_upto_region 3 with fail
  rw [HZ3.out]
  generalize W3.alloc (.cells (Array.replicate c (.int .i64 0)) 3) = W4 at HST ⊢
  clear HQ3 HB3 HT3 HD3 HM3 HW3 HW2 HQ2 HB2 HD2 HZ2
  go_wp2_with fail
  go_loopg [14] (c + 1) (fun q i wr => ∃ (j : Nat), q = c + 1 - j ∧ j ≤ c ∧ i = .int .i64 (j : Int) ∧ Hid (ThM w.heap.size wr (w1.heap.size + 1) w1.heap.size PA n pcap st (c : Int) gi N lng (List.replicate KK false) (fun _ => []) (.slice none 0 0) none ∧ Blk wr (w1.heap.size + 2) 3 (repL c j).toArray ∧ Blk wr w.heap.size 28 #[.slice PA n pcap, .int .i64 st, .int .i64 (c : Int)] ∧ Below w.heap.size w wr))
  case atStart => exact ⟨0, rfl, Nat.zero_le _, rfl, HST⟩
  case round =>
    obtain ⟨j, hgk, hj, rfl, HR⟩ := hrel
    have HG := Lib.hid hgk
    clear hgk
    by_cases hlt : j < c
    · have hi : (j : Int) < (c : Int) := by omega
      have hz : j < (repL c j).toArray.size := by rw [List.size_toArray, repL_length hj]; exact hlt
      have r1 : wr.cell? ⟨w1.heap.size + 2, j, none⟩ = some (repL c j).toArray[j] := by rw [HR.out.2.1.cell]; exact Array.getElem?_eq_getElem hz
      have r2 := HR.out.2.1.frozen j
      generalize (repL c j).toArray[j] = cu at r1
      have HR2 : Hid (ThM w.heap.size (wr.setCell ⟨w1.heap.size + 2, j, none⟩ (.int .i64 (-1))) (w1.heap.size + 1) w1.heap.size PA n pcap st (c : Int) gi N lng (List.replicate KK false) (fun _ => []) (.slice none 0 0) none ∧ Blk (wr.setCell ⟨w1.heap.size + 2, j, none⟩ (.int .i64 (-1))) (w1.heap.size + 2) 3 (repL c (j + 1)).toArray ∧ Blk (wr.setCell ⟨w1.heap.size + 2, j, none⟩ (.int .i64 (-1))) w.heap.size 28 #[.slice PA n pcap, .int .i64 st, .int .i64 (c : Int)] ∧ Below w.heap.size w (wr.setCell ⟨w1.heap.size + 2, j, none⟩ (.int .i64 (-1)))) := Lib.hid ⟨HR.out.1.far0 (p := ⟨w1.heap.size + 2, j, none⟩) (show w1.heap.size + 2 ≠ w1.heap.size + 1 by omega) (show w1.heap.size + 2 ≠ w1.heap.size by omega) _, by have := HR.out.2.1.set j (.int .i64 (-1)); rw [repL_set hlt] at this; exact this, HR.out.2.2.1.far (show w.heap.size ≠ w1.heap.size + 2 by have := HG1.out; omega) _, HR.out.2.2.2.setCell (show w.heap.size ≤ w1.heap.size + 2 by have := HG1.out; omega) _⟩
      have HLT := Lib.hid hlt
      clear hlt hj hz
      go_wp2_with fail
      go_roundg (c + 1 - (j + 1))
      case measure => have := HG.out; have := HLT.out; omega
      case rel => exact ⟨j + 1, rfl, by have := HLT.out; omega, by have := HLT.out; go_num, HR2⟩
    · have hi : ¬ (j : Int) < (c : Int) := by omega
      obtain rfl : j = c := by omega
      have HM5 := Lib.hid HR.out.1
      have HC5 := Lib.hid HR.out.2.1
      have HQ5 := Lib.hid HR.out.2.2.1
      have HD5 := Lib.hid HR.out.2.2.2
      clear hlt hj HR HG HST
      have hz : 0 < (repL j j).toArray.size := by rw [List.size_toArray, repL_length (Nat.le_refl _)]; have := HCN.out; omega
      have r1 : wr.cell? ⟨w1.heap.size + 2, 0, none⟩ = some (repL j j).toArray[0] := by rw [HC5.out.cell]; exact Array.getElem?_eq_getElem hz
      have r2 := HC5.out.frozen 0
      have hc0 : (0 : Int) < (j : Int) := by have := HCN.out; omega
      have hc1 : 0 < j := by omega
      generalize (repL j j).toArray[0] = cu at r1
      clear hz
      go_upto_region 8 with fail
      have HM6 := Lib.hid (HM5.out.far0 (p := ⟨w1.heap.size + 2, 0, none⟩) (show w1.heap.size + 2 ≠ w1.heap.size + 1 by omega) (show w1.heap.size + 2 ≠ w1.heap.size by omega) (.int .i64 (s : Int)))
      have hC6 := HC5.out.set 0 (.int .i64 (s : Int))
      rw [repL_fit] at hC6
      have HC6 := Lib.hid hC6
      have HQ6 := Lib.hid (HQ5.out.far (p := ⟨w1.heap.size + 2, 0, none⟩) (show w.heap.size ≠ w1.heap.size + 2 by have := HG1.out; omega) (.int .i64 (s : Int)))
      have HD6 := Lib.hid (HD5.out.setCell (p := ⟨w1.heap.size + 2, 0, none⟩) (show w.heap.size ≤ w1.heap.size + 2 by have := HG1.out; omega) (.int .i64 (s : Int)))
      clear hC6 r1 r2 hc0 hc1 HM5 HC5 HQ5 HD5
      generalize wr.setCell ⟨w1.heap.size + 2, 0, none⟩ (.int .i64 (s : Int)) = W6 at HM6 HC6 HQ6 HD6 ⊢
      have hfl : (fit0 (j : Int) s).length = j := by rw [fit0_length, Int.toNat_natCast]
      have hfi : FitIn W6 (Zt (w1.heap.size + 1) w1.heap.size) (.slice (some ⟨w1.heap.size + 2, 0, none⟩) (fit0 (j : Int) s).length (fit0 (j : Int) s).length) (fit0 (j : Int) s) := FitIn.of_blk HC6.out rfl (by rw [hfl]; have := HCN.out; omega) (by rintro (h | h) <;> omega)
      have hth := th_any (g := w1.heap.size + 1) (gs := w1.heap.size) (lng := lng) HP.out HOK.out.2.2.2.2.2.2.2 HI.out HU.out HN.out HRN.out HNB.out HOK.out.2.1 (by have := HCN.out; omega) ((List.replicate KK false).count false + 1) W6 _ _ _ _ st s _ _ _ HM6.out HD6.out hfi (by rw [hfl]) HOK.out.2.2.1 HOK.out.2.2.2.1 (by have := HS.out; omega) (by omega)
      rw [hfl] at hth
      have k1 := HQ6.out.cell 1
      simp only [List.getElem?_toArray, List.getElem?_cons_zero, List.getElem?_cons_succ] at k1
      clear hfi hfl
      go_wp2_with fail
      with_reducible refine hth.mono ?_
      rintro e W7 ⟨rfl, V7, b7, B7, bv7, hd7, hM7, hK7, _⟩
      have hG := run_G (PgOK.leads3 HOK.out HP.out.len).1 HOK.out.2.2.1 (by rw [HP.out.len]; exact HOK.out.2.2.2.1) HCN.out.1 (by rw [full_length, HN.out]) HS.out lng hd7
      have HGG := Lib.hid hG
      have HM7 := Lib.hid hM7
      have HD7 := Lib.hid (HD6.out.trans (hK7.zt HM6.out.bg HM6.out.bs HM6.out.bw))
      have k7 := hM7.box.cell 7
      simp only [List.getElem?_toArray, List.getElem?_cons_zero, List.getElem?_cons_succ] at k7
      clear hth hd7 hM7 hK7 hG k1
      rcases best_two (lng := true) (.inr rfl) HM7.out.best with ⟨rfl, rfl⟩ | ⟨_, cb, rfl, hcb⟩
      · go_upto_region 9 with fail
        go_quiet (fail)
        go_wp2_with fail
        go_ret2
        rw [← HGG.out]
        exact ⟨_, rfl, rfl, HD7.out.drewN⟩
      · obtain ⟨vb, vo, vc, rfl, h1, h2, h3, h4, h5⟩ := hcb
        go_upto_region 9 with fail
        go_quiet (fail)
        go_wp2_with fail
        go_ret2
        rw [← HGG.out]
        exact ⟨_, rfl, FitIn.frm ⟨vb, vo, vc, rfl, h1, h2, h3, h4, h5⟩ (Frm.of_below (S := fun _ => False) (Below.refl _ _).drewN) (fun _ h => h.elim) (fun _ h => h.elim), HD7.out.drewN⟩

set_option maxRecDepth 20000 in
set_option maxHeartbeats 4000000 in
theorem find12_any {w : World} {PA : Option Addr} {n pcap : Nat} {st : Int} {c : Nat} {L : List MI} {m : List (Int × Nat)} {e0 : Nat} {sx : List UInt8} {lo U gi N : Nat} {frm : Int} (lng : Bool)
    (hP : PgIn w PA n pcap L) (hOK : PgOK n st (c : Int) L) (hI : RefAt w lo U gi m e0 sx) (hU : U ≤ w.heap.size) (hN : m.length = N) (hrn : ∀ p ∈ m, 0 ≤ p.1) (hNb : N ≤ 100000) (hK : (N + 1) * n ≤ 1000000) (hfr : frm ≤ 9223372036854775807) :
    Calls Tryd.prog 32 #[.agg #[.slice PA n pcap, .int .i64 st, .int .i64 (c : Int)], .pointer (some ⟨gi, 0, none⟩), .int .i64 frm, .bool lng] w (TellB w (fromG L (full m e0) st c lng frm.toNat)) := by
  have q1 := Blk.new w 28 #[.slice PA n pcap, .int .i64 st, .int .i64 (c : Int)]
  have b1 : Below w.heap.size w (w.alloc (.cells #[.slice PA n pcap, .int .i64 st, .int .i64 (c : Int)] 28)) := (Below.refl _ _).alloc (Nat.le_refl _) _
  obtain ⟨f, hf⟩ : ∃ f : Nat, f = frm.toNat := ⟨_, rfl⟩
  have hmax : max frm 0 = (f : Int) := by omega
  rw [← hf]
  have hfI : (f : Int) ≤ 9223372036854775807 := by omega
  have hll : (full m e0).length = N + 1 := by rw [full_length, hN]
  have hNi : (N : Int) ≤ 9223372036854775807 := by omega
  have HP := Lib.hid hP
  have HOK := Lib.hid hOK
  have HI := Lib.hid hI
  have HU := Lib.hid hU
  have HN := Lib.hid hN
  have HRN := Lib.hid hrn
  have HNB := Lib.hid hNb
  have HK := Lib.hid hK
  have HLL := Lib.hid hll
  clear hP hOK hI hU hN hrn hNb hK hfr hf hll
  go_enter Tryd.func32, Tryd.ntmps32
  go_upto_region 1 with fail
  generalize w.alloc (.cells #[.slice PA n pcap, .int .i64 st, .int .i64 (c : Int)] 28) = w1 at q1 b1 ⊢
  have Q1 := Lib.hid q1
  have B1 := Lib.hid b1
  clear q1 b1
  go_wp2_with fail
  go_loopg [10] (N + 1 - f) (fun q i wr => ∃ (j : Nat), q = N + 1 - j ∧ f ≤ j ∧ i = .int .i64 (j : Int) ∧ (j : Int) ≤ 9223372036854775807 ∧ Hid (Blk wr w.heap.size 28 #[.slice PA n pcap, .int .i64 st, .int .i64 (c : Int)] ∧ Below w.heap.size w wr ∧ fromG L (full m e0) st c lng f = fromG L (full m e0) st c lng j))
  case atStart => exact ⟨f, rfl, Nat.le_refl _, rfl, hfI, Lib.hid ⟨Q1.out, B1.out, rfl⟩⟩
  case round =>
    obtain ⟨j, hgk, hfj, rfl, hji, HR⟩ := hrel
    have HG := Lib.hid hgk
    have HFJ := Lib.hid hfj
    clear hgk hfj
    have hl1 := refLen_any (HI.out.same (.of_below HR.out.2.1 HU.out))
    rw [HN.out] at hl1
    by_cases hlt : j ≤ N
    · have hi : (j : Int) ≤ (N : Int) := by omega
      go_upto_region 4 with (go_at_call 33; refine hl1.mono ?_; rintro e w' ⟨rfl, rfl⟩)
      have hS : (fun w' => w'.cell? ⟨w.heap.size, 0, none⟩ = some (.slice PA n pcap) ∧ w'.cell? ⟨w.heap.size, 1, none⟩ = some (.int .i64 st) ∧ w'.cell? ⟨w.heap.size, 2, none⟩ = some (.int .i64 (c : Int))) wr.drew := And.intro (HR.out.1.cell 0) (And.intro (HR.out.1.cell 1) (HR.out.1.cell 2))
      have hl2 := refLen_any (HI.out.same (.of_below HR.out.2.1.drew HU.out))
      rw [HN.out] at hl2
      have hrun := run12_any (s := j) lng (HP.out.below HR.out.2.1.drew) HOK.out (HI.out.same (.of_below HR.out.2.1.drew HU.out)) (Nat.le_trans HU.out HR.out.2.1.size) HN.out HRN.out HNB.out HK.out hlt
      have hst := fromG_step (L := L) (l := full m e0) (st := st) (c := c) (lng := lng) (j := j) (by rw [HLL.out]; omega)
      generalize atG L (full m e0) st c lng ((full m e0).length - j) j = R at hrun hst
      have HSTP := Lib.hid hst
      have HLT := Lib.hid hlt
      clear hst hl1 hlt
      refine wp_region_U (S := fun w' => w'.cell? ⟨w.heap.size, 0, none⟩ = some (.slice PA n pcap) ∧ w'.cell? ⟨w.heap.size, 1, none⟩ = some (.int .i64 st) ∧ w'.cell? ⟨w.heap.size, 2, none⟩ = some (.int .i64 (c : Int))) (t := 99) (by kernel_rfl) ?_
      refine wpAnyU_take (i := 0) (v := ?_) rfl (by kernel_rfl) (by kernel_rfl) (by kernel_rfl) (fun _ _ _ h => h) (by kernel_rfl) (Or.inl ⟨by rfl, ?_⟩) hS ?_
      rotate_left
      · (intro w hS; obtain ⟨s1, s2, s3⟩ := hS; go_simp; try with_reducible rfl)
      try simp only [List.getElem_toArray, List.getElem_cons_zero, Act.put, List.setIfInBounds_toArray, List.set_cons_zero, List.set_cons_succ]
      refine wpAnyU_pure (i := 1) (v := ?_) rfl (by kernel_rfl) (by kernel_rfl) (by kernel_rfl) (fun _ _ _ h => h) (by kernel_rfl) (Or.inl ⟨by rfl, ?_⟩) (Or.inr hS) ?_
      rotate_left
      · (intro w _; go_simp; try with_reducible rfl)
      try simp only [List.getElem_toArray, List.getElem_cons_succ, List.getElem_cons_zero, Act.put, List.setIfInBounds_toArray, List.set_cons_zero, List.set_cons_succ]
      refine wpAnyU_pure (i := 2) (v := ?_) rfl (by kernel_rfl) (by kernel_rfl) (by kernel_rfl) (fun _ _ _ h => h) (by kernel_rfl) (Or.inl ⟨by rfl, ?_⟩) (Or.inr hS) ?_
      rotate_left
      · (intro w _; go_simp; try with_reducible rfl)
      try simp only [List.getElem_toArray, List.getElem_cons_succ, List.getElem_cons_zero, Act.put, List.setIfInBounds_toArray, List.set_cons_zero, List.set_cons_succ]
      refine wpAnyU_pure (i := 3) (v := ?_) rfl (by kernel_rfl) (by kernel_rfl) (by kernel_rfl) (fun _ _ _ h => h) (by kernel_rfl) (Or.inl ⟨by rfl, ?_⟩) (Or.inr hS) ?_
      rotate_left
      · (intro w _; go_simp; try with_reducible rfl)
      try simp only [List.getElem_toArray, List.getElem_cons_succ, List.getElem_cons_zero, Act.put, List.setIfInBounds_toArray, List.set_cons_zero, List.set_cons_succ]
      refine wpAnyU_pure (i := 5) (v := ?_) rfl (by kernel_rfl) (by kernel_rfl) (by kernel_rfl) (fun _ _ _ h => h) (by kernel_rfl) (Or.inl ⟨by rfl, ?_⟩) (Or.inr hS) ?_
      rotate_left
      · (intro w _; go_simp; try with_reducible rfl)
      try simp only [List.getElem_toArray, List.getElem_cons_succ, List.getElem_cons_zero, Act.put, List.setIfInBounds_toArray, List.set_cons_zero, List.set_cons_succ]
      refine wpAnyU_one (i := 4) (by kernel_rfl) rfl (fun K hK => ?_)
      go_simp
      with_reducible refine hl2.mono ?_
      rintro e w' ⟨rfl, rfl⟩
      go_simp
      replace hS := hS
      refine hK _ _ (Or.inr hS) ?_
      clear hK K
      try simp only [Array.getInternal_eq_getElem, List.getElem_toArray, List.getElem_cons_succ, List.getElem_cons_zero, Act.put, List.setIfInBounds_toArray, List.set_cons_zero, List.set_cons_succ]
      refine wpAnyU_one (i := 6) (by kernel_rfl) rfl (fun K hK => ?_)
      go_simp
      with_reducible refine hrun.mono ?_
      rintro e w5 ⟨v, rfl, hbv, hb5⟩
      have HBV := Lib.hid hbv
      have HD5 := Lib.hid (HR.out.2.1.drew.trans (hb5.mono HR.out.2.1.drew.size))
      have HQ5 := Lib.hid (HR.out.1.drew.below hb5 HR.out.1.lt)
      clear hrun hl2 hbv hb5
      go_simp
      replace hS := And.intro (HQ5.out.cell 0) (And.intro (HQ5.out.cell 1) (HQ5.out.cell 2))
      refine hK _ _ (Or.inr hS) ?_
      clear hK K
      try simp only [Array.getInternal_eq_getElem, List.getElem_toArray, List.getElem_cons_succ, List.getElem_cons_zero, Act.put, List.setIfInBounds_toArray, List.set_cons_zero, List.set_cons_succ]
      refine wpAnyU_pure (i := 7) (v := ?_) rfl (by kernel_rfl) (by kernel_rfl) (by kernel_rfl) (fun _ _ _ h => h) (by kernel_rfl) (Or.inl ⟨by rfl, ?_⟩) (Or.inr hS) ?_
      rotate_left
      · (intro w _; go_simp; try with_reducible rfl)
      try simp only [List.getElem_toArray, List.getElem_cons_succ, List.getElem_cons_zero, Act.put, List.setIfInBounds_toArray, List.set_cons_zero, List.set_cons_succ]
      refine wpAnyU_pure (i := 8) (v := ?_) rfl (by kernel_rfl) (by kernel_rfl) (by kernel_rfl) (fun _ _ _ h => h) (by kernel_rfl) (Or.inl ⟨by rfl, ?_⟩) (Or.inr hS) ?_
      rotate_left
      · (intro w _; go_simp; try with_reducible rfl)
      try simp only [List.getElem_toArray, List.getElem_cons_succ, List.getElem_cons_zero, Act.put, List.setIfInBounds_toArray, List.set_cons_zero, List.set_cons_succ]
      refine wpAnyU_pure (i := 9) (v := ?_) rfl (by kernel_rfl) (by kernel_rfl) (by kernel_rfl) (fun _ _ _ h => h) (by kernel_rfl) (Or.inl ⟨by rfl, ?_⟩) (Or.inr hS) ?_
      rotate_left
      · (intro w _; go_simp; try with_reducible rfl)
      try simp only [List.getElem_toArray, List.getElem_cons_succ, List.getElem_cons_zero, Act.put, List.setIfInBounds_toArray, List.set_cons_zero, List.set_cons_succ]
      refine wpAnyU_pure (i := 10) (v := ?_) rfl (by kernel_rfl) (by kernel_rfl) (by kernel_rfl) (fun _ _ _ h => h) (by kernel_rfl) (Or.inl ⟨by rfl, ?_⟩) (Or.inr hS) ?_
      rotate_left
      · (intro w _; go_simp; try with_reducible rfl)
      try simp only [List.getElem_toArray, List.getElem_cons_succ, List.getElem_cons_zero, Act.put, List.setIfInBounds_toArray, List.set_cons_zero, List.set_cons_succ]
      refine wpAnyU_pure (i := 11) (v := ?_) rfl (by kernel_rfl) (by kernel_rfl) (by kernel_rfl) (fun _ _ _ h => h) (by kernel_rfl) (Or.inl ⟨by rfl, ?_⟩) (Or.inr hS) ?_
      rotate_left
      · (intro w _; go_simp; try with_reducible rfl)
      try simp only [List.getElem_toArray, List.getElem_cons_succ, List.getElem_cons_zero, Act.put, List.setIfInBounds_toArray, List.set_cons_zero, List.set_cons_succ]
      refine wpAnyU_done (by kernel_rfl) ?_ _
      clear hS
      cases R with
      | none =>
        have hj1 : IntKind.i64.wrap ((j : Int) + 1) = (j : Int) + 1 := IntWalk.i64_in _ (by have := HNB.out; omega)
        have HST : Hid (fromG L (full m e0) st c lng f = fromG L (full m e0) st c lng (j + 1)) := Lib.hid (by rw [HR.out.2.2, HSTP.out, Option.none_or])
        go_wp2_with fail
        go_roundg (N + 1 - (j + 1))
        case measure => have := HG.out; have := HLT.out; omega
        case rel => exact ⟨j + 1, rfl, by have := HFJ.out; omega, by go_num, by have := HNB.out; have := HLT.out; omega, Lib.hid ⟨HQ5.out, HD5.out, HST.out⟩⟩
      | some a =>
        have HST : Hid (fromG L (full m e0) st c lng f = some a) := Lib.hid (by rw [HR.out.2.2, HSTP.out, Option.some_or])
        go_wp2_with fail
        go_ret2
        rw [HST.out]
        exact ⟨v, rfl, HBV.out, HD5.out⟩
    · have hi : ¬ (j : Int) ≤ (N : Int) := by omega
      have HST : Hid (fromG L (full m e0) st c lng f = none) := Lib.hid (by rw [HR.out.2.2]; exact fromG_end (by rw [HLL.out]; omega))
      go_wp2_with (go_at_call 33; refine hl1.mono ?_; rintro e w' ⟨rfl, rfl⟩)
      go_ret2
      rw [HST.out]
      exact ⟨_, rfl, rfl, HR.out.2.1⟩

set_option maxRecDepth 20000 in
set_option maxHeartbeats 4000000 in
theorem want_any {w : World} {PA : Option Addr} {n pcap : Nat} {st : Int} {c : Nat} {L : List MI} {m : List (Int × Nat)} {e0 : Nat} {sx : List UInt8} {lo U gi N : Nat} {frm : Int} (anch lng : Bool)
    (hP : PgIn w PA n pcap L) (hOK : PgOK n st (c : Int) L) (hI : RefAt w lo U gi m e0 sx) (hU : U ≤ w.heap.size) (hN : m.length = N) (hrn : ∀ p ∈ m, 0 ≤ p.1) (hNb : N ≤ 100000) (hK : (N + 1) * n ≤ 1000000) (hfr : frm ≤ 9223372036854775807) :
    Calls Tryd.prog 13 #[.agg #[.slice PA n pcap, .int .i64 st, .int .i64 (c : Int)], .pointer (some ⟨gi, 0, none⟩), .int .i64 frm, .bool anch, .bool lng] w (TellB w (findR L (full m e0) st (c : Int) frm anch lng)) := by
  have q1 := Blk.new w 28 #[.slice PA n pcap, .int .i64 st, .int .i64 (c : Int)]
  have b1 : Below w.heap.size w (w.alloc (.cells #[.slice PA n pcap, .int .i64 st, .int .i64 (c : Int)] 28)) := (Below.refl _ _).alloc (Nat.le_refl _) _
  have hll : (full m e0).length = N + 1 := by rw [full_length, hN]
  have hl3 := PgOK.leads3 hOK hP.len
  have hc2 : 2 ≤ c := by have := hOK.2.2.2.2.1; omega
  have hs0 := hOK.2.2.1
  have hs1 : st < (L.length : Int) := by rw [hP.len]; exact hOK.2.2.2.1
  have HP := Lib.hid hP
  have HOK := Lib.hid hOK
  have HI := Lib.hid hI
  have HU := Lib.hid hU
  have HN := Lib.hid hN
  have HRN := Lib.hid hrn
  have HNB := Lib.hid hNb
  have HK := Lib.hid hK
  have HLL := Lib.hid hll
  clear hP hOK hI hU hN hrn hNb hK hll
  cases anch with
  | false =>
    have HE : Hid (findR L (full m e0) st (c : Int) frm false lng = fromG L (full m e0) st c lng frm.toNat) := Lib.hid (findR_from hl3.1 hl3.2 hc2 hs0 hs1 lng frm)
    clear hl3 hc2 hs0 hs1
    go_enter Tryd.func13, Tryd.ntmps13
    go_upto_region 1 with fail
    generalize w.alloc (.cells #[.slice PA n pcap, .int .i64 st, .int .i64 (c : Int)] 28) = w1 at q1 b1 ⊢
    have hfi := find12_any (frm := frm) lng (HP.out.below b1) HOK.out (HI.out.same (.of_below b1 HU.out)) (Nat.le_trans HU.out b1.size) HN.out HRN.out HNB.out HK.out hfr
    have k0 := q1.cell 0
    have k1 := q1.cell 1
    have k2 := q1.cell 2
    simp only [List.getElem?_toArray, List.getElem?_cons_zero, List.getElem?_cons_succ] at k0 k1 k2
    have B1 := Lib.hid b1
    clear q1 b1 hfr
    go_wp2_with fail
    with_reducible refine hfi.mono ?_
    rintro e w5 ⟨v, rfl, hbv, hb5⟩
    rw [← HE.out] at hbv ⊢
    have HF := Lib.hid (And.intro hbv (B1.out.trans (hb5.mono B1.out.size)))
    clear hfi hbv hb5
    go_wp2_with fail
    go_ret2
    exact ⟨v, rfl, HF.out.1, HF.out.2⟩
  | true =>
    by_cases hz : frm < 0
    · have HE : Hid (findR L (full m e0) st (c : Int) frm true lng = none) := Lib.hid (by unfold findR; rw [if_pos ⟨rfl, .inl hz⟩])
      clear hl3 hc2 hs0 hs1
      go_enter Tryd.func13, Tryd.ntmps13
      go_wp2_with fail
      go_ret2
      rw [HE.out]
      exact ⟨_, rfl, rfl, b1⟩
    by_cases hz2 : (N : Int) < frm
    · have HE : Hid (findR L (full m e0) st (c : Int) frm true lng = none) := Lib.hid (by unfold findR; rw [if_pos ⟨rfl, .inr (by rw [HLL.out]; omega)⟩])
      have hl1 := refLen_any (HI.out.same (.of_below b1 HU.out))
      rw [HN.out] at hl1
      clear hl3 hc2 hs0 hs1
      go_enter Tryd.func13, Tryd.ntmps13
      go_wp2_with (go_at_call 33; refine hl1.mono ?_; rintro e w' ⟨rfl, rfl⟩)
      go_ret2
      rw [HE.out]
      exact ⟨_, rfl, rfl, b1⟩
    obtain ⟨s, rfl⟩ : ∃ s : Nat, frm = (s : Int) := ⟨frm.toNat, by omega⟩
    have HS : Hid (s ≤ N) := Lib.hid (by omega)
    have HE : Hid (findR L (full m e0) st (c : Int) (s : Int) true lng = atG L (full m e0) st c lng ((full m e0).length - s) s) := Lib.hid (findR_anch hl3.2 hc2 lng s (by rw [HLL.out]; have := HS.out; omega))
    have hl1 := refLen_any (HI.out.same (.of_below b1 HU.out))
    rw [HN.out] at hl1
    clear hl3 hc2 hs0 hs1
    go_enter Tryd.func13, Tryd.ntmps13
    go_upto_region 1 with fail
    generalize w.alloc (.cells #[.slice PA n pcap, .int .i64 st, .int .i64 (c : Int)] 28) = w1 at q1 b1 hl1 ⊢
    have Q1 := Lib.hid q1
    have B1 := Lib.hid b1
    clear q1 b1 hfr
    go_upto_region 5 with (go_at_call 33; refine hl1.mono ?_; rintro e w' ⟨rfl, rfl⟩)
    have hS : (fun w' => w'.cell? ⟨w.heap.size, 0, none⟩ = some (.slice PA n pcap) ∧ w'.cell? ⟨w.heap.size, 1, none⟩ = some (.int .i64 st) ∧ w'.cell? ⟨w.heap.size, 2, none⟩ = some (.int .i64 (c : Int))) w1.drew := And.intro (Q1.out.cell 0) (And.intro (Q1.out.cell 1) (Q1.out.cell 2))
    have hl2 := refLen_any (HI.out.same (.of_below B1.out.drew HU.out))
    rw [HN.out] at hl2
    have hrun := run12_any (s := s) lng (HP.out.below B1.out.drew) HOK.out (HI.out.same (.of_below B1.out.drew HU.out)) (Nat.le_trans HU.out B1.out.size) HN.out HRN.out HNB.out HK.out HS.out
    rw [← HE.out] at hrun
    clear hl1
    refine wp_region_U (S := fun w' => w'.cell? ⟨w.heap.size, 0, none⟩ = some (.slice PA n pcap) ∧ w'.cell? ⟨w.heap.size, 1, none⟩ = some (.int .i64 st) ∧ w'.cell? ⟨w.heap.size, 2, none⟩ = some (.int .i64 (c : Int))) (t := 99) (by kernel_rfl) ?_
    refine wpAnyU_take (i := 0) (v := ?_) rfl (by kernel_rfl) (by kernel_rfl) (by kernel_rfl) (fun _ _ _ h => h) (by kernel_rfl) (Or.inl ⟨by rfl, ?_⟩) hS ?_
    rotate_left
    · (intro w hS; obtain ⟨s1, s2, s3⟩ := hS; go_simp; try with_reducible rfl)
    try simp only [List.getElem_toArray, List.getElem_cons_zero, Act.put, List.setIfInBounds_toArray, List.set_cons_zero, List.set_cons_succ]
    refine wpAnyU_pure (i := 1) (v := ?_) rfl (by kernel_rfl) (by kernel_rfl) (by kernel_rfl) (fun _ _ _ h => h) (by kernel_rfl) (Or.inl ⟨by rfl, ?_⟩) (Or.inr hS) ?_
    rotate_left
    · (intro w _; go_simp; try with_reducible rfl)
    try simp only [List.getElem_toArray, List.getElem_cons_succ, List.getElem_cons_zero, Act.put, List.setIfInBounds_toArray, List.set_cons_zero, List.set_cons_succ]
    refine wpAnyU_pure (i := 2) (v := ?_) rfl (by kernel_rfl) (by kernel_rfl) (by kernel_rfl) (fun _ _ _ h => h) (by kernel_rfl) (Or.inl ⟨by rfl, ?_⟩) (Or.inr hS) ?_
    rotate_left
    · (intro w _; go_simp; try with_reducible rfl)
    try simp only [List.getElem_toArray, List.getElem_cons_succ, List.getElem_cons_zero, Act.put, List.setIfInBounds_toArray, List.set_cons_zero, List.set_cons_succ]
    refine wpAnyU_pure (i := 3) (v := ?_) rfl (by kernel_rfl) (by kernel_rfl) (by kernel_rfl) (fun _ _ _ h => h) (by kernel_rfl) (Or.inl ⟨by rfl, ?_⟩) (Or.inr hS) ?_
    rotate_left
    · (intro w _; go_simp; try with_reducible rfl)
    try simp only [List.getElem_toArray, List.getElem_cons_succ, List.getElem_cons_zero, Act.put, List.setIfInBounds_toArray, List.set_cons_zero, List.set_cons_succ]
    refine wpAnyU_pure (i := 5) (v := ?_) rfl (by kernel_rfl) (by kernel_rfl) (by kernel_rfl) (fun _ _ _ h => h) (by kernel_rfl) (Or.inl ⟨by rfl, ?_⟩) (Or.inr hS) ?_
    rotate_left
    · (intro w _; go_simp; try with_reducible rfl)
    try simp only [List.getElem_toArray, List.getElem_cons_succ, List.getElem_cons_zero, Act.put, List.setIfInBounds_toArray, List.set_cons_zero, List.set_cons_succ]
    refine wpAnyU_one (i := 4) (by kernel_rfl) rfl (fun K hK => ?_)
    go_simp
    with_reducible refine hl2.mono ?_
    rintro e w' ⟨rfl, rfl⟩
    go_simp
    replace hS := hS
    refine hK _ _ (Or.inr hS) ?_
    clear hK K
    try simp only [Array.getInternal_eq_getElem, List.getElem_toArray, List.getElem_cons_succ, List.getElem_cons_zero, Act.put, List.setIfInBounds_toArray, List.set_cons_zero, List.set_cons_succ]
    refine wpAnyU_one (i := 6) (by kernel_rfl) rfl (fun K hK => ?_)
    go_simp
    with_reducible refine hrun.mono ?_
    rintro e w5 ⟨v, rfl, hbv, hb5⟩
    have HBV := Lib.hid hbv
    have HD5 := Lib.hid (B1.out.drew.trans (hb5.mono B1.out.drew.size))
    have HQ5 := Lib.hid (Q1.out.drew.below hb5 Q1.out.lt)
    clear hrun hl2 hbv hb5
    go_simp
    replace hS := And.intro (HQ5.out.cell 0) (And.intro (HQ5.out.cell 1) (HQ5.out.cell 2))
    refine hK _ _ (Or.inr hS) ?_
    clear hK K
    try simp only [Array.getInternal_eq_getElem, List.getElem_toArray, List.getElem_cons_succ, List.getElem_cons_zero, Act.put, List.setIfInBounds_toArray, List.set_cons_zero, List.set_cons_succ]
    refine wpAnyU_pure (i := 7) (v := ?_) rfl (by kernel_rfl) (by kernel_rfl) (by kernel_rfl) (fun _ _ _ h => h) (by kernel_rfl) (Or.inl ⟨by rfl, ?_⟩) (Or.inr hS) ?_
    rotate_left
    · (intro w _; go_simp; try with_reducible rfl)
    try simp only [List.getElem_toArray, List.getElem_cons_succ, List.getElem_cons_zero, Act.put, List.setIfInBounds_toArray, List.set_cons_zero, List.set_cons_succ]
    refine wpAnyU_pure (i := 8) (v := ?_) rfl (by kernel_rfl) (by kernel_rfl) (by kernel_rfl) (fun _ _ _ h => h) (by kernel_rfl) (Or.inl ⟨by rfl, ?_⟩) (Or.inr hS) ?_
    rotate_left
    · (intro w _; go_simp; try with_reducible rfl)
    try simp only [List.getElem_toArray, List.getElem_cons_succ, List.getElem_cons_zero, Act.put, List.setIfInBounds_toArray, List.set_cons_zero, List.set_cons_succ]
    refine wpAnyU_pure (i := 9) (v := ?_) rfl (by kernel_rfl) (by kernel_rfl) (by kernel_rfl) (fun _ _ _ h => h) (by kernel_rfl) (Or.inl ⟨by rfl, ?_⟩) (Or.inr hS) ?_
    rotate_left
    · (intro w _; go_simp; try with_reducible rfl)
    try simp only [List.getElem_toArray, List.getElem_cons_succ, List.getElem_cons_zero, Act.put, List.setIfInBounds_toArray, List.set_cons_zero, List.set_cons_succ]
    refine wpAnyU_pure (i := 10) (v := ?_) rfl (by kernel_rfl) (by kernel_rfl) (by kernel_rfl) (fun _ _ _ h => h) (by kernel_rfl) (Or.inl ⟨by rfl, ?_⟩) (Or.inr hS) ?_
    rotate_left
    · (intro w _; go_simp; try with_reducible rfl)
    try simp only [List.getElem_toArray, List.getElem_cons_succ, List.getElem_cons_zero, Act.put, List.setIfInBounds_toArray, List.set_cons_zero, List.set_cons_succ]
    refine wpAnyU_done (by kernel_rfl) ?_ _
    clear hS
    go_wp2_with fail
    go_ret2
    exact ⟨v, rfl, HBV.out, HD5.out⟩
end Go.Proofs.YtbhcgjahlfpjoaaDoor
