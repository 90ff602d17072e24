/- The reference's come: the walk. -/
import Derived.Test.YtbhcgjahlfpjoaaPc5
namespace Go.Proofs.Ytbhcgjahlfpjoaa
open Go.RowKit

def ComeB (w W : World) (A : Option Addr) (n c : Nat) (st cp at_ : Int) (lng : Bool) (g gs : Nat) (L : List MI) (O : Option Addr) (s : CS) (p : Int) (e : Ending) (W' : World) : Prop :=
  e = .returned (.tuple #[]) ∧ ∃ (s' : CS) (O' : Option Addr) (oc' : Nat), WkM w W' A n c st cp at_ lng g gs s'.seen O' oc' s'.out s'.mt ∧ Kpt g gs O O' W W' ∧ Runs L (AtT at_) lng [p] s s'
/-- come of what leaves less than N. -/
def ComeN (w : World) (A : Option Addr) (n c : Nat) (st cp at_ : Int) (lng : Bool) (g gs : Nat) (L : List MI) (N : Nat) : Prop :=
  ∀ (s : CS) (W : World) (O : Option Addr) (oc : Nat) (p : Int), s.left < N → WkM w W A n c st cp at_ lng g gs s.seen O oc s.out s.mt → s.seen.length = n → s.out.length + s.left ≤ n → 0 ≤ p → p < (n : Int) →
    Calls Try.prog 75 #[.pointer (some ⟨g, 0, none⟩), .int .i64 p] W (ComeB w W A n c st cp at_ lng g gs L O s p)

set_option maxRecDepth 20000 in
set_option maxHeartbeats 1000000 in
theorem come_seen {w W : World} {A : Option Addr} {n c : Nat} {st cp at_ : Int} {lng : Bool} {g gs : Nat} {L : List MI} {s : CS} {O : Option Addr} {oc q : Nat} (hM : WkM w W A n c st cp at_ lng g gs s.seen O oc s.out s.mt) (hq : q < n) (hs : s.seen[q]? = some true) : Calls Try.prog 75 #[.pointer (some ⟨g, 0, none⟩), .int .i64 (q : Int)] W (ComeB w W A n c st cp at_ lng g gs L O s (q : Int)) := by
  have b0 := hM.blk.cell 0
  have b4 := hM.blk.cell 4
  have b5 := hM.blk.cell 5
  have b6 := hM.blk.cell 6
  have b7 := hM.blk.cell 7
  simp only [List.getElem?_toArray, List.getElem?_cons_zero, List.getElem?_cons_succ] at b0 b4 b5 b6 b7
  have hqi : (q : Int) < (n : Int) := by omega
  have c2 := hM.seenAt hs
  have HM := Lib.hid hM
  have HS := Lib.hid hs
  clear hM hs hq
  go_enter Try.func75, Try.ntmps75
  go_wp2_with fail
  refine bodyPost_ret (results_none (by rfl) _ _ _) (by rfl) ?_
  exact ⟨rfl, s, O, oc, HM.out, Kpt.refl _ _ _ _, .skip (.inl HS.out) (.nil s)⟩

set_option maxRecDepth 20000 in
set_option maxHeartbeats 1000000 in
theorem come_done {w W : World} {A : Option Addr} {n c : Nat} {st cp at_ : Int} {lng : Bool} {g gs : Nat} {L : List MI} {s : CS} {O : Option Addr} {oc q : Nat} (hM : WkM w W A n c st cp at_ lng g gs s.seen O oc s.out s.mt) (hq : q < n) (hs : s.seen[q]? = some false) (hmt : s.mt = true) (hln : lng = false) : Calls Try.prog 75 #[.pointer (some ⟨g, 0, none⟩), .int .i64 (q : Int)] W (ComeB w W A n c st cp at_ lng g gs L O s (q : Int)) := by
  have b0 := hM.blk.cell 0
  have b4 := hM.blk.cell 4
  have b5 := hM.blk.cell 5
  have b6 := hM.blk.cell 6
  have b7 := hM.blk.cell 7
  simp only [List.getElem?_toArray, List.getElem?_cons_zero, List.getElem?_cons_succ] at b0 b4 b5 b6 b7
  have hqi : (q : Int) < (n : Int) := by omega
  have c2 := hM.seenAt hs
  subst hln
  have HMT := Lib.hid hmt
  rw [hmt] at b7
  have HM := Lib.hid hM
  have HS := Lib.hid hs
  clear hM hs hq hmt
  go_enter Try.func75, Try.ntmps75
  go_wp2_with fail
  refine bodyPost_ret (results_none (by rfl) _ _ _) (by rfl) ?_
  exact ⟨rfl, s, O, oc, HM.out, Kpt.refl _ _ _ _, .skip (.inr (by simp [CS.done, HMT.out])) (.nil s)⟩

set_option maxRecDepth 20000 in
set_option maxHeartbeats 2000000 in
theorem come_op1 {w W : World} {A : Option Addr} {n c : Nat} {st cp at_ : Int} {lng : Bool} {g gs : Nat} {L : List MI} {s : CS} {O : Option Addr} {oc q : Nat} (HC : ComeN w A n c st cp at_ lng g gs L s.left) (hM : WkM w W A n c st cp at_ lng g gs s.seen O oc s.out s.mt) (hA : PgIn w A n c L) (hL : Leads L) (hn : n ≤ 10000) (hl : s.seen.length = n) (ho : s.out.length + s.left ≤ n) (hq : q < n) (hs : s.seen[q]? = some false) (hnd : s.done lng = false) {y : MI} (hy : L[q]? = some y) (hop : y.op = 1) : Calls Try.prog 75 #[.pointer (some ⟨g, 0, none⟩), .int .i64 (q : Int)] W (ComeB w W A n c st cp at_ lng g gs L O s (q : Int)) := by
  have b0 := hM.blk.cell 0
  have b4 := hM.blk.cell 4
  have b5 := hM.blk.cell 5
  have b6 := hM.blk.cell 6
  have b7 := hM.blk.cell 7
  simp only [List.getElem?_toArray, List.getElem?_cons_zero, List.getElem?_cons_succ] at b0 b4 b5 b6 b7
  have hqi : (q : Int) < (n : Int) := by omega
  have c2 := hM.seenAt hs
  have f2 := hM.seenB.frozen q
  have hm : s.mark y (q : Int) = ⟨s.seen.set q true, s.out, true⟩ := by simp [CS.mark, hop]
  have hl3 := CS.left_mark (x := y) (pc := (q : Int)) hs
  rw [hm] at hl3
  have HL3 := Lib.hid hl3
  have HMK := Lib.hid hm
  obtain ⟨bA, oA, y', rfl, hbA, hy', hyI, hyc⟩ := hA.at hq
  rw [hy] at hy'
  obtain rfl : y = y' := by injection hy'
  have hM1 := hM.setSeen q
  have hK1 := Kpt.set (g := g) (gs := gs) O W (p := ⟨gs, q, none⟩) (.inr rfl) (.bool true)
  have e0 := hM1.blk.cell 0
  simp only [List.getElem?_toArray, List.getElem?_cons_zero] at e0
  obtain ⟨c4, c5, c6, c7, c8⟩ := hyc _ (.of_below hM1.below (Nat.le_refl _))
  obtain ⟨hla, hlo, _, _⟩ := hL y (List.mem_of_getElem? hy)
  rw [hA.len] at hla hlo
  have hos : s.out.length ≤ 10000 := by omega
  have HM := Lib.hid hM
  have HM1 := Lib.hid hM1
  have HK1 := Lib.hid hK1
  have HCC := Lib.hid HC
  have HY := Lib.hid hy
  have HS := Lib.hid hs
  have HND := Lib.hid hnd
  have HLN := Lib.hid hl
  have HOL := Lib.hid ho
  have HOP := Lib.hid hop
  have HQ := Lib.hid hq
  have hdd : s.mt = false ∨ s.mt = true ∧ lng = true := by have h := HND.out; unfold CS.done at h; cases h1 : s.mt <;> cases h2 : lng <;> simp_all
  clear hM hM1 hK1 HC hy hy' hs hnd hl ho hm hl3 hla hlo hA hL hyc hyI hbA hq hop
  go_enter Try.func75, Try.ntmps75
  rcases hdd with hmt | ⟨hmt, hlg⟩
  · rw [hmt] at b7
    have HMT := Lib.hid hmt
    clear hmt
    go_upto_region 2 with fail
    generalize W.setCell ⟨gs, q, none⟩ (.bool true) = W1 at HM1 HK1 e0 c4 c5 c6 c7 c8 ⊢
    clear b0 b4 b5 b6 b7 c2 f2
    go_upto_region 3 with fail
    have hbx := Blk.new W1 60 #[.int .i64 y.op, .int .i64 y.out, .int .i64 y.arg, .slice y.A y.n y.c, .int .i64 y.at_]
    have d0 := hbx.cell 0
    have d1 := hbx.cell 1
    have d2 := hbx.cell 2
    have d4 := hbx.cell 4
    simp only [List.getElem?_toArray, List.getElem?_cons_zero, List.getElem?_cons_succ] at d0 d1 d2 d4
    have HBX := Lib.hid hbx
    have hM2 := HM1.out.alloc (.cells #[.int .i64 y.op, .int .i64 y.out, .int .i64 y.arg, .slice y.A y.n y.c, .int .i64 y.at_] 60)
    have HM2 := Lib.hid hM2
    have HK2 := Lib.hid (HK1.out.trans (Kpt.alloc g gs O W1 (.cells #[.int .i64 y.op, .int .i64 y.out, .int .i64 y.arg, .slice y.A y.n y.c, .int .i64 y.at_] 60)))
    have hx1 : W1.heap.size ≠ g := Blk.ne hbx hM2.blk (by decide)
    have hx2 : W1.heap.size ≠ gs := Blk.ne hbx hM2.seenB (by decide)
    have hx3 : (Value.slice O 0 0).ownBlock ≠ some W1.heap.size := by rw [ownBlock_len O 0 0 s.out.length oc]; exact own_ne_blk hM2.own hbx (by decide)
    have HX1 := Lib.hid hx1
    have HX2 := Lib.hid hx2
    have HX3 := Lib.hid hx3
    have b3 := hM2.blk.cell 3
    have b6 := hM2.blk.cell 6
    have b7 := hM2.blk.cell 7
    have f7 := hM2.blk.frozen 7
    simp only [List.getElem?_toArray, List.getElem?_cons_zero, List.getElem?_cons_succ] at b3 b6 b7
    clear hbx hM2 hx1 hx2 hx3 e0 c4 c5 c6 c7 c8 HM1 HK1
    generalize W1.alloc (.cells #[.int .i64 y.op, .int .i64 y.out, .int .i64 y.arg, .slice y.A y.n y.c, .int .i64 y.at_] 60) = W2 at d0 d1 d2 d4 HM2 HBX HK2 b3 b6 b7 f7 ⊢
    generalize W1.heap.size = gx at d0 d1 d2 d4 HBX HX1 HX2 HX3 ⊢
    rw [HOP.out] at d0
    go_wp2_with fail
    first | (refine bodyPost_ret (results_none (by rfl) _ _ _) (by rfl) ?_) | (refine bodyPost_end (results_none (by rfl) _ _ _) (by rfl) ?_)
    exact ⟨rfl, ⟨s.seen.set q true, s.out, true⟩, O, oc, HM2.out.setMt true, HK2.out.trans (Kpt.set (g := g) O W2 (p := ⟨g, 7, none⟩) (.inl rfl) _), .step y HY.out HS.out HND.out (by rw [HMK.out]; simpa [succs, HOP.out] using Runs.nil _)⟩
  · rw [hmt] at b7
    have HMT := Lib.hid hmt
    rw [hlg] at b4
    clear hmt
    go_upto_region 2 with fail
    generalize W.setCell ⟨gs, q, none⟩ (.bool true) = W1 at HM1 HK1 e0 c4 c5 c6 c7 c8 ⊢
    clear b0 b4 b5 b6 b7 c2 f2
    go_upto_region 3 with fail
    have hbx := Blk.new W1 60 #[.int .i64 y.op, .int .i64 y.out, .int .i64 y.arg, .slice y.A y.n y.c, .int .i64 y.at_]
    have d0 := hbx.cell 0
    have d1 := hbx.cell 1
    have d2 := hbx.cell 2
    have d4 := hbx.cell 4
    simp only [List.getElem?_toArray, List.getElem?_cons_zero, List.getElem?_cons_succ] at d0 d1 d2 d4
    have HBX := Lib.hid hbx
    have hM2 := HM1.out.alloc (.cells #[.int .i64 y.op, .int .i64 y.out, .int .i64 y.arg, .slice y.A y.n y.c, .int .i64 y.at_] 60)
    have HM2 := Lib.hid hM2
    have HK2 := Lib.hid (HK1.out.trans (Kpt.alloc g gs O W1 (.cells #[.int .i64 y.op, .int .i64 y.out, .int .i64 y.arg, .slice y.A y.n y.c, .int .i64 y.at_] 60)))
    have hx1 : W1.heap.size ≠ g := Blk.ne hbx hM2.blk (by decide)
    have hx2 : W1.heap.size ≠ gs := Blk.ne hbx hM2.seenB (by decide)
    have hx3 : (Value.slice O 0 0).ownBlock ≠ some W1.heap.size := by rw [ownBlock_len O 0 0 s.out.length oc]; exact own_ne_blk hM2.own hbx (by decide)
    have HX1 := Lib.hid hx1
    have HX2 := Lib.hid hx2
    have HX3 := Lib.hid hx3
    have b3 := hM2.blk.cell 3
    have b6 := hM2.blk.cell 6
    have b7 := hM2.blk.cell 7
    have f7 := hM2.blk.frozen 7
    simp only [List.getElem?_toArray, List.getElem?_cons_zero, List.getElem?_cons_succ] at b3 b6 b7
    clear hbx hM2 hx1 hx2 hx3 e0 c4 c5 c6 c7 c8 HM1 HK1
    generalize W1.alloc (.cells #[.int .i64 y.op, .int .i64 y.out, .int .i64 y.arg, .slice y.A y.n y.c, .int .i64 y.at_] 60) = W2 at d0 d1 d2 d4 HM2 HBX HK2 b3 b6 b7 f7 ⊢
    generalize W1.heap.size = gx at d0 d1 d2 d4 HBX HX1 HX2 HX3 ⊢
    rw [HOP.out] at d0
    go_wp2_with fail
    first | (refine bodyPost_ret (results_none (by rfl) _ _ _) (by rfl) ?_) | (refine bodyPost_end (results_none (by rfl) _ _ _) (by rfl) ?_)
    exact ⟨rfl, ⟨s.seen.set q true, s.out, true⟩, O, oc, HM2.out.setMt true, HK2.out.trans (Kpt.set (g := g) O W2 (p := ⟨g, 7, none⟩) (.inl rfl) _), .step y HY.out HS.out HND.out (by rw [HMK.out]; simpa [succs, HOP.out] using Runs.nil _)⟩

set_option maxRecDepth 20000 in
set_option maxHeartbeats 2000000 in
theorem come_op2 {w W : World} {A : Option Addr} {n c : Nat} {st cp at_ : Int} {lng : Bool} {g gs : Nat} {L : List MI} {s : CS} {O : Option Addr} {oc q : Nat} (HC : ComeN w A n c st cp at_ lng g gs L s.left) (hM : WkM w W A n c st cp at_ lng g gs s.seen O oc s.out s.mt) (hA : PgIn w A n c L) (hL : Leads L) (hn : n ≤ 10000) (hl : s.seen.length = n) (ho : s.out.length + s.left ≤ n) (hq : q < n) (hs : s.seen[q]? = some false) (hnd : s.done lng = false) {y : MI} (hy : L[q]? = some y) (hop : y.op = 2) : Calls Try.prog 75 #[.pointer (some ⟨g, 0, none⟩), .int .i64 (q : Int)] W (ComeB w W A n c st cp at_ lng g gs L O s (q : Int)) := by
  have b0 := hM.blk.cell 0
  have b4 := hM.blk.cell 4
  have b5 := hM.blk.cell 5
  have b6 := hM.blk.cell 6
  have b7 := hM.blk.cell 7
  simp only [List.getElem?_toArray, List.getElem?_cons_zero, List.getElem?_cons_succ] at b0 b4 b5 b6 b7
  have hqi : (q : Int) < (n : Int) := by omega
  have c2 := hM.seenAt hs
  have f2 := hM.seenB.frozen q
  have hm : s.mark y (q : Int) = ⟨s.seen.set q true, s.out ++ [(q : Int)], s.mt⟩ := by simp [CS.mark, hop]
  have hl3 := CS.left_mark (x := y) (pc := (q : Int)) hs
  rw [hm] at hl3
  have HL3 := Lib.hid hl3
  have HMK := Lib.hid hm
  obtain ⟨bA, oA, y', rfl, hbA, hy', hyI, hyc⟩ := hA.at hq
  rw [hy] at hy'
  obtain rfl : y = y' := by injection hy'
  have hM1 := hM.setSeen q
  have hK1 := Kpt.set (g := g) (gs := gs) O W (p := ⟨gs, q, none⟩) (.inr rfl) (.bool true)
  have e0 := hM1.blk.cell 0
  simp only [List.getElem?_toArray, List.getElem?_cons_zero] at e0
  obtain ⟨c4, c5, c6, c7, c8⟩ := hyc _ (.of_below hM1.below (Nat.le_refl _))
  obtain ⟨hla, hlo, _, _⟩ := hL y (List.mem_of_getElem? hy)
  rw [hA.len] at hla hlo
  have hos : s.out.length ≤ 10000 := by omega
  have HM := Lib.hid hM
  have HM1 := Lib.hid hM1
  have HK1 := Lib.hid hK1
  have HCC := Lib.hid HC
  have HY := Lib.hid hy
  have HS := Lib.hid hs
  have HND := Lib.hid hnd
  have HLN := Lib.hid hl
  have HOL := Lib.hid ho
  have HOP := Lib.hid hop
  have HQ := Lib.hid hq
  have hdd : s.mt = false ∨ s.mt = true ∧ lng = true := by have h := HND.out; unfold CS.done at h; cases h1 : s.mt <;> cases h2 : lng <;> simp_all
  clear hM hM1 hK1 HC hy hy' hs hnd hl ho hm hl3 hla hlo hA hL hyc hyI hbA hq hop
  go_enter Try.func75, Try.ntmps75
  rcases hdd with hmt | ⟨hmt, hlg⟩
  · rw [hmt] at b7
    have HMT := Lib.hid hmt
    clear hmt
    go_upto_region 2 with fail
    generalize W.setCell ⟨gs, q, none⟩ (.bool true) = W1 at HM1 HK1 e0 c4 c5 c6 c7 c8 ⊢
    clear b0 b4 b5 b6 b7 c2 f2
    go_upto_region 3 with fail
    have hbx := Blk.new W1 60 #[.int .i64 y.op, .int .i64 y.out, .int .i64 y.arg, .slice y.A y.n y.c, .int .i64 y.at_]
    have d0 := hbx.cell 0
    have d1 := hbx.cell 1
    have d2 := hbx.cell 2
    have d4 := hbx.cell 4
    simp only [List.getElem?_toArray, List.getElem?_cons_zero, List.getElem?_cons_succ] at d0 d1 d2 d4
    have HBX := Lib.hid hbx
    have hM2 := HM1.out.alloc (.cells #[.int .i64 y.op, .int .i64 y.out, .int .i64 y.arg, .slice y.A y.n y.c, .int .i64 y.at_] 60)
    have HM2 := Lib.hid hM2
    have HK2 := Lib.hid (HK1.out.trans (Kpt.alloc g gs O W1 (.cells #[.int .i64 y.op, .int .i64 y.out, .int .i64 y.arg, .slice y.A y.n y.c, .int .i64 y.at_] 60)))
    have hx1 : W1.heap.size ≠ g := Blk.ne hbx hM2.blk (by decide)
    have hx2 : W1.heap.size ≠ gs := Blk.ne hbx hM2.seenB (by decide)
    have hx3 : (Value.slice O 0 0).ownBlock ≠ some W1.heap.size := by rw [ownBlock_len O 0 0 s.out.length oc]; exact own_ne_blk hM2.own hbx (by decide)
    have HX1 := Lib.hid hx1
    have HX2 := Lib.hid hx2
    have HX3 := Lib.hid hx3
    have b3 := hM2.blk.cell 3
    have b6 := hM2.blk.cell 6
    have b7 := hM2.blk.cell 7
    have f7 := hM2.blk.frozen 7
    simp only [List.getElem?_toArray, List.getElem?_cons_zero, List.getElem?_cons_succ] at b3 b6 b7
    clear hbx hM2 hx1 hx2 hx3 e0 c4 c5 c6 c7 c8 HM1 HK1
    generalize W1.alloc (.cells #[.int .i64 y.op, .int .i64 y.out, .int .i64 y.arg, .slice y.A y.n y.c, .int .i64 y.at_] 60) = W2 at d0 d1 d2 d4 HM2 HBX HK2 b3 b6 b7 f7 ⊢
    generalize W1.heap.size = gx at d0 d1 d2 d4 HBX HX1 HX2 HX3 ⊢
    rw [HOP.out] at d0
    go_wp2_with (at_builtin; refine wpList_app _ rfl _ _ 42 rfl w.heap.size 3 elI (.slice O s.out.length oc) _ _ rfl (HM2.out.own.alloc _) 0 (W2.heap.size + 1) _ 1 1 [.int .i64 (q : Int)] rfl (fun h => by cases h) rfl (Rd.new W2 _ _ _ (Nat.zero_le _) (by omega)) (by simp [Value.oneCell']) (by unfold maxLen; omega) (by omega) (by have := HM2.out.below.size; simp; omega) ?_; intro v' W3 hO hg hb _; obtain ⟨O3, oc3, rfl, k6, f6, hM3, hK3⟩ := (HM2.out.alloc _).put hO hg hb; have HM3 := Lib.hid hM3; have HK3 := Lib.hid ((HK2.out.trans (Kpt.alloc g gs O W2 _)).trans hK3); clear hO hg hb hM3 hK3)
    first | (refine bodyPost_ret (results_none (by rfl) _ _ _) (by rfl) ?_) | (refine bodyPost_end (results_none (by rfl) _ _ _) (by rfl) ?_)
    first | exact ⟨rfl, ⟨s.seen.set q true, s.out ++ [(q : Int)], s.mt⟩, O3, oc3, HM3.out, HK3.out, .step y HY.out HS.out HND.out (by rw [HMK.out]; simpa [succs, HOP.out] using Runs.nil _)⟩ | (have h3 := HM3.out; have h4 := HK3.out; simp only [List.length_append, List.length_cons, List.length_nil] at h3 h4; exact ⟨rfl, ⟨s.seen.set q true, s.out ++ [(q : Int)], s.mt⟩, O3, oc3, by simpa using h3, by simpa using h4, .step y HY.out HS.out HND.out (by rw [HMK.out]; simpa [succs, HOP.out] using Runs.nil _)⟩)
  · rw [hmt] at b7
    have HMT := Lib.hid hmt
    rw [hlg] at b4
    clear hmt
    go_upto_region 2 with fail
    generalize W.setCell ⟨gs, q, none⟩ (.bool true) = W1 at HM1 HK1 e0 c4 c5 c6 c7 c8 ⊢
    clear b0 b4 b5 b6 b7 c2 f2
    go_upto_region 3 with fail
    have hbx := Blk.new W1 60 #[.int .i64 y.op, .int .i64 y.out, .int .i64 y.arg, .slice y.A y.n y.c, .int .i64 y.at_]
    have d0 := hbx.cell 0
    have d1 := hbx.cell 1
    have d2 := hbx.cell 2
    have d4 := hbx.cell 4
    simp only [List.getElem?_toArray, List.getElem?_cons_zero, List.getElem?_cons_succ] at d0 d1 d2 d4
    have HBX := Lib.hid hbx
    have hM2 := HM1.out.alloc (.cells #[.int .i64 y.op, .int .i64 y.out, .int .i64 y.arg, .slice y.A y.n y.c, .int .i64 y.at_] 60)
    have HM2 := Lib.hid hM2
    have HK2 := Lib.hid (HK1.out.trans (Kpt.alloc g gs O W1 (.cells #[.int .i64 y.op, .int .i64 y.out, .int .i64 y.arg, .slice y.A y.n y.c, .int .i64 y.at_] 60)))
    have hx1 : W1.heap.size ≠ g := Blk.ne hbx hM2.blk (by decide)
    have hx2 : W1.heap.size ≠ gs := Blk.ne hbx hM2.seenB (by decide)
    have hx3 : (Value.slice O 0 0).ownBlock ≠ some W1.heap.size := by rw [ownBlock_len O 0 0 s.out.length oc]; exact own_ne_blk hM2.own hbx (by decide)
    have HX1 := Lib.hid hx1
    have HX2 := Lib.hid hx2
    have HX3 := Lib.hid hx3
    have b3 := hM2.blk.cell 3
    have b6 := hM2.blk.cell 6
    have b7 := hM2.blk.cell 7
    have f7 := hM2.blk.frozen 7
    simp only [List.getElem?_toArray, List.getElem?_cons_zero, List.getElem?_cons_succ] at b3 b6 b7
    clear hbx hM2 hx1 hx2 hx3 e0 c4 c5 c6 c7 c8 HM1 HK1
    generalize W1.alloc (.cells #[.int .i64 y.op, .int .i64 y.out, .int .i64 y.arg, .slice y.A y.n y.c, .int .i64 y.at_] 60) = W2 at d0 d1 d2 d4 HM2 HBX HK2 b3 b6 b7 f7 ⊢
    generalize W1.heap.size = gx at d0 d1 d2 d4 HBX HX1 HX2 HX3 ⊢
    rw [HOP.out] at d0
    go_wp2_with (at_builtin; refine wpList_app _ rfl _ _ 42 rfl w.heap.size 3 elI (.slice O s.out.length oc) _ _ rfl (HM2.out.own.alloc _) 0 (W2.heap.size + 1) _ 1 1 [.int .i64 (q : Int)] rfl (fun h => by cases h) rfl (Rd.new W2 _ _ _ (Nat.zero_le _) (by omega)) (by simp [Value.oneCell']) (by unfold maxLen; omega) (by omega) (by have := HM2.out.below.size; simp; omega) ?_; intro v' W3 hO hg hb _; obtain ⟨O3, oc3, rfl, k6, f6, hM3, hK3⟩ := (HM2.out.alloc _).put hO hg hb; have HM3 := Lib.hid hM3; have HK3 := Lib.hid ((HK2.out.trans (Kpt.alloc g gs O W2 _)).trans hK3); clear hO hg hb hM3 hK3)
    first | (refine bodyPost_ret (results_none (by rfl) _ _ _) (by rfl) ?_) | (refine bodyPost_end (results_none (by rfl) _ _ _) (by rfl) ?_)
    first | exact ⟨rfl, ⟨s.seen.set q true, s.out ++ [(q : Int)], s.mt⟩, O3, oc3, HM3.out, HK3.out, .step y HY.out HS.out HND.out (by rw [HMK.out]; simpa [succs, HOP.out] using Runs.nil _)⟩ | (have h3 := HM3.out; have h4 := HK3.out; simp only [List.length_append, List.length_cons, List.length_nil] at h3 h4; exact ⟨rfl, ⟨s.seen.set q true, s.out ++ [(q : Int)], s.mt⟩, O3, oc3, by simpa using h3, by simpa using h4, .step y HY.out HS.out HND.out (by rw [HMK.out]; simpa [succs, HOP.out] using Runs.nil _)⟩)

set_option maxRecDepth 20000 in
set_option maxHeartbeats 2000000 in
theorem come_op3 {w W : World} {A : Option Addr} {n c : Nat} {st cp at_ : Int} {lng : Bool} {g gs : Nat} {L : List MI} {s : CS} {O : Option Addr} {oc q : Nat} (HC : ComeN w A n c st cp at_ lng g gs L s.left) (hM : WkM w W A n c st cp at_ lng g gs s.seen O oc s.out s.mt) (hA : PgIn w A n c L) (hL : Leads L) (hn : n ≤ 10000) (hl : s.seen.length = n) (ho : s.out.length + s.left ≤ n) (hq : q < n) (hs : s.seen[q]? = some false) (hnd : s.done lng = false) {y : MI} (hy : L[q]? = some y) (hop : y.op = 3) : Calls Try.prog 75 #[.pointer (some ⟨g, 0, none⟩), .int .i64 (q : Int)] W (ComeB w W A n c st cp at_ lng g gs L O s (q : Int)) := by
  have b0 := hM.blk.cell 0
  have b4 := hM.blk.cell 4
  have b5 := hM.blk.cell 5
  have b6 := hM.blk.cell 6
  have b7 := hM.blk.cell 7
  simp only [List.getElem?_toArray, List.getElem?_cons_zero, List.getElem?_cons_succ] at b0 b4 b5 b6 b7
  have hqi : (q : Int) < (n : Int) := by omega
  have c2 := hM.seenAt hs
  have f2 := hM.seenB.frozen q
  have hm : s.mark y (q : Int) = ⟨s.seen.set q true, s.out, s.mt⟩ := by simp [CS.mark, hop]
  have hl3 := CS.left_mark (x := y) (pc := (q : Int)) hs
  rw [hm] at hl3
  have HL3 := Lib.hid hl3
  have HMK := Lib.hid hm
  obtain ⟨bA, oA, y', rfl, hbA, hy', hyI, hyc⟩ := hA.at hq
  rw [hy] at hy'
  obtain rfl : y = y' := by injection hy'
  have hM1 := hM.setSeen q
  have hK1 := Kpt.set (g := g) (gs := gs) O W (p := ⟨gs, q, none⟩) (.inr rfl) (.bool true)
  have e0 := hM1.blk.cell 0
  simp only [List.getElem?_toArray, List.getElem?_cons_zero] at e0
  obtain ⟨c4, c5, c6, c7, c8⟩ := hyc _ (.of_below hM1.below (Nat.le_refl _))
  obtain ⟨hla, hlo, _, _⟩ := hL y (List.mem_of_getElem? hy)
  rw [hA.len] at hla hlo
  have HO := Lib.hid (hlo (by omega))
  have HAR := Lib.hid (hla hop)
  have hos : s.out.length ≤ 10000 := by omega
  have HM := Lib.hid hM
  have HM1 := Lib.hid hM1
  have HK1 := Lib.hid hK1
  have HCC := Lib.hid HC
  have HY := Lib.hid hy
  have HS := Lib.hid hs
  have HND := Lib.hid hnd
  have HLN := Lib.hid hl
  have HOL := Lib.hid ho
  have HOP := Lib.hid hop
  have HQ := Lib.hid hq
  have hdd : s.mt = false ∨ s.mt = true ∧ lng = true := by have h := HND.out; unfold CS.done at h; cases h1 : s.mt <;> cases h2 : lng <;> simp_all
  clear hM hM1 hK1 HC hy hy' hs hnd hl ho hm hl3 hla hlo hA hL hyc hyI hbA hq hop
  go_enter Try.func75, Try.ntmps75
  rcases hdd with hmt | ⟨hmt, hlg⟩
  · rw [hmt] at b7
    have HMT := Lib.hid hmt
    clear hmt
    go_upto_region 2 with fail
    generalize W.setCell ⟨gs, q, none⟩ (.bool true) = W1 at HM1 HK1 e0 c4 c5 c6 c7 c8 ⊢
    clear b0 b4 b5 b6 b7 c2 f2
    go_upto_region 3 with fail
    have hbx := Blk.new W1 60 #[.int .i64 y.op, .int .i64 y.out, .int .i64 y.arg, .slice y.A y.n y.c, .int .i64 y.at_]
    have d0 := hbx.cell 0
    have d1 := hbx.cell 1
    have d2 := hbx.cell 2
    have d4 := hbx.cell 4
    simp only [List.getElem?_toArray, List.getElem?_cons_zero, List.getElem?_cons_succ] at d0 d1 d2 d4
    have HBX := Lib.hid hbx
    have hM2 := HM1.out.alloc (.cells #[.int .i64 y.op, .int .i64 y.out, .int .i64 y.arg, .slice y.A y.n y.c, .int .i64 y.at_] 60)
    have HM2 := Lib.hid hM2
    have HK2 := Lib.hid (HK1.out.trans (Kpt.alloc g gs O W1 (.cells #[.int .i64 y.op, .int .i64 y.out, .int .i64 y.arg, .slice y.A y.n y.c, .int .i64 y.at_] 60)))
    have hx1 : W1.heap.size ≠ g := Blk.ne hbx hM2.blk (by decide)
    have hx2 : W1.heap.size ≠ gs := Blk.ne hbx hM2.seenB (by decide)
    have hx3 : (Value.slice O 0 0).ownBlock ≠ some W1.heap.size := by rw [ownBlock_len O 0 0 s.out.length oc]; exact own_ne_blk hM2.own hbx (by decide)
    have HX1 := Lib.hid hx1
    have HX2 := Lib.hid hx2
    have HX3 := Lib.hid hx3
    have b3 := hM2.blk.cell 3
    have b6 := hM2.blk.cell 6
    have b7 := hM2.blk.cell 7
    have f7 := hM2.blk.frozen 7
    simp only [List.getElem?_toArray, List.getElem?_cons_zero, List.getElem?_cons_succ] at b3 b6 b7
    clear hbx hM2 hx1 hx2 hx3 e0 c4 c5 c6 c7 c8 HM1 HK1
    generalize W1.alloc (.cells #[.int .i64 y.op, .int .i64 y.out, .int .i64 y.arg, .slice y.A y.n y.c, .int .i64 y.at_] 60) = W2 at d0 d1 d2 d4 HM2 HBX HK2 b3 b6 b7 f7 ⊢
    generalize W1.heap.size = gx at d0 d1 d2 d4 HBX HX1 HX2 HX3 ⊢
    rw [HOP.out] at d0
    go_wp2_with fail
    refine (HCC.out ⟨s.seen.set q true, s.out, s.mt⟩ W2 O oc y.out (by have := HL3.out; omega) HM2.out (by simp [HLN.out]) (by have h1 := HL3.out; have h2 := HOL.out; show s.out.length + _ ≤ n; omega) HO.out.1 HO.out.2).mono ?_
    rintro e W5 ⟨rfl, s5, O5, oc5, hM5, hK5, hR5⟩
    have HM5 := Lib.hid hM5
    have HR5 := Lib.hid hR5
    have HK5 := Lib.hid (HK2.out.trans hK5)
    have hb5 := hK5.blk HBX.out HX1.out HX2.out HX3.out
    clear d2
    have d2 := hb5.cell 2
    simp only [List.getElem?_toArray, List.getElem?_cons_zero, List.getElem?_cons_succ] at d2
    obtain ⟨u1, u2, u3⟩ := hR5.num
    simp only [List.length_set] at u1 u3
    have hu2 : s5.left < s.left := by have := HL3.out; omega
    have hu3 : s5.out.length + s5.left ≤ n := by have h1 := HL3.out; have h2 := HOL.out; omega
    have HU1 := Lib.hid (u1.trans HLN.out)
    have HU2 := Lib.hid hu2
    have HU3 := Lib.hid hu3
    clear hM5 hR5 hK5 hb5 u1 u2 u3 hu2 hu3 d0 d1 d4 b3 b6 b7 f7
    go_wp2_with fail
    refine (HCC.out s5 W5 O5 oc5 y.arg HU2.out HM5.out HU1.out HU3.out HAR.out.1 HAR.out.2).mono ?_
    rintro e W6 ⟨rfl, s6, O6, oc6, hM6, hK6, hR6⟩
    have HM6 := Lib.hid hM6
    have HR6 := Lib.hid hR6
    have HK6 := Lib.hid (HK5.out.trans hK6)
    clear hM6 hR6 hK6
    go_wp2_with fail
    first | (refine bodyPost_ret (results_none (by rfl) _ _ _) (by rfl) ?_) | (refine bodyPost_end (results_none (by rfl) _ _ _) (by rfl) ?_)
    exact ⟨rfl, s6, O6, oc6, HM6.out, HK6.out, .step y HY.out HS.out HND.out (by rw [HMK.out]; simpa [succs, HOP.out] using HR5.out.app HR6.out)⟩
  · rw [hmt] at b7
    have HMT := Lib.hid hmt
    rw [hlg] at b4
    clear hmt
    go_upto_region 2 with fail
    generalize W.setCell ⟨gs, q, none⟩ (.bool true) = W1 at HM1 HK1 e0 c4 c5 c6 c7 c8 ⊢
    clear b0 b4 b5 b6 b7 c2 f2
    go_upto_region 3 with fail
    have hbx := Blk.new W1 60 #[.int .i64 y.op, .int .i64 y.out, .int .i64 y.arg, .slice y.A y.n y.c, .int .i64 y.at_]
    have d0 := hbx.cell 0
    have d1 := hbx.cell 1
    have d2 := hbx.cell 2
    have d4 := hbx.cell 4
    simp only [List.getElem?_toArray, List.getElem?_cons_zero, List.getElem?_cons_succ] at d0 d1 d2 d4
    have HBX := Lib.hid hbx
    have hM2 := HM1.out.alloc (.cells #[.int .i64 y.op, .int .i64 y.out, .int .i64 y.arg, .slice y.A y.n y.c, .int .i64 y.at_] 60)
    have HM2 := Lib.hid hM2
    have HK2 := Lib.hid (HK1.out.trans (Kpt.alloc g gs O W1 (.cells #[.int .i64 y.op, .int .i64 y.out, .int .i64 y.arg, .slice y.A y.n y.c, .int .i64 y.at_] 60)))
    have hx1 : W1.heap.size ≠ g := Blk.ne hbx hM2.blk (by decide)
    have hx2 : W1.heap.size ≠ gs := Blk.ne hbx hM2.seenB (by decide)
    have hx3 : (Value.slice O 0 0).ownBlock ≠ some W1.heap.size := by rw [ownBlock_len O 0 0 s.out.length oc]; exact own_ne_blk hM2.own hbx (by decide)
    have HX1 := Lib.hid hx1
    have HX2 := Lib.hid hx2
    have HX3 := Lib.hid hx3
    have b3 := hM2.blk.cell 3
    have b6 := hM2.blk.cell 6
    have b7 := hM2.blk.cell 7
    have f7 := hM2.blk.frozen 7
    simp only [List.getElem?_toArray, List.getElem?_cons_zero, List.getElem?_cons_succ] at b3 b6 b7
    clear hbx hM2 hx1 hx2 hx3 e0 c4 c5 c6 c7 c8 HM1 HK1
    generalize W1.alloc (.cells #[.int .i64 y.op, .int .i64 y.out, .int .i64 y.arg, .slice y.A y.n y.c, .int .i64 y.at_] 60) = W2 at d0 d1 d2 d4 HM2 HBX HK2 b3 b6 b7 f7 ⊢
    generalize W1.heap.size = gx at d0 d1 d2 d4 HBX HX1 HX2 HX3 ⊢
    rw [HOP.out] at d0
    go_wp2_with fail
    refine (HCC.out ⟨s.seen.set q true, s.out, s.mt⟩ W2 O oc y.out (by have := HL3.out; omega) HM2.out (by simp [HLN.out]) (by have h1 := HL3.out; have h2 := HOL.out; show s.out.length + _ ≤ n; omega) HO.out.1 HO.out.2).mono ?_
    rintro e W5 ⟨rfl, s5, O5, oc5, hM5, hK5, hR5⟩
    have HM5 := Lib.hid hM5
    have HR5 := Lib.hid hR5
    have HK5 := Lib.hid (HK2.out.trans hK5)
    have hb5 := hK5.blk HBX.out HX1.out HX2.out HX3.out
    clear d2
    have d2 := hb5.cell 2
    simp only [List.getElem?_toArray, List.getElem?_cons_zero, List.getElem?_cons_succ] at d2
    obtain ⟨u1, u2, u3⟩ := hR5.num
    simp only [List.length_set] at u1 u3
    have hu2 : s5.left < s.left := by have := HL3.out; omega
    have hu3 : s5.out.length + s5.left ≤ n := by have h1 := HL3.out; have h2 := HOL.out; omega
    have HU1 := Lib.hid (u1.trans HLN.out)
    have HU2 := Lib.hid hu2
    have HU3 := Lib.hid hu3
    clear hM5 hR5 hK5 hb5 u1 u2 u3 hu2 hu3 d0 d1 d4 b3 b6 b7 f7
    go_wp2_with fail
    refine (HCC.out s5 W5 O5 oc5 y.arg HU2.out HM5.out HU1.out HU3.out HAR.out.1 HAR.out.2).mono ?_
    rintro e W6 ⟨rfl, s6, O6, oc6, hM6, hK6, hR6⟩
    have HM6 := Lib.hid hM6
    have HR6 := Lib.hid hR6
    have HK6 := Lib.hid (HK5.out.trans hK6)
    clear hM6 hR6 hK6
    go_wp2_with fail
    first | (refine bodyPost_ret (results_none (by rfl) _ _ _) (by rfl) ?_) | (refine bodyPost_end (results_none (by rfl) _ _ _) (by rfl) ?_)
    exact ⟨rfl, s6, O6, oc6, HM6.out, HK6.out, .step y HY.out HS.out HND.out (by rw [HMK.out]; simpa [succs, HOP.out] using HR5.out.app HR6.out)⟩

set_option maxRecDepth 20000 in
set_option maxHeartbeats 2000000 in
theorem come_op4 {w W : World} {A : Option Addr} {n c : Nat} {st cp at_ : Int} {lng : Bool} {g gs : Nat} {L : List MI} {s : CS} {O : Option Addr} {oc q : Nat} (HC : ComeN w A n c st cp at_ lng g gs L s.left) (hM : WkM w W A n c st cp at_ lng g gs s.seen O oc s.out s.mt) (hA : PgIn w A n c L) (hL : Leads L) (hn : n ≤ 10000) (hl : s.seen.length = n) (ho : s.out.length + s.left ≤ n) (hq : q < n) (hs : s.seen[q]? = some false) (hnd : s.done lng = false) {y : MI} (hy : L[q]? = some y) (hop : y.op = 4) : Calls Try.prog 75 #[.pointer (some ⟨g, 0, none⟩), .int .i64 (q : Int)] W (ComeB w W A n c st cp at_ lng g gs L O s (q : Int)) := by
  have b0 := hM.blk.cell 0
  have b4 := hM.blk.cell 4
  have b5 := hM.blk.cell 5
  have b6 := hM.blk.cell 6
  have b7 := hM.blk.cell 7
  simp only [List.getElem?_toArray, List.getElem?_cons_zero, List.getElem?_cons_succ] at b0 b4 b5 b6 b7
  have hqi : (q : Int) < (n : Int) := by omega
  have c2 := hM.seenAt hs
  have f2 := hM.seenB.frozen q
  have hm : s.mark y (q : Int) = ⟨s.seen.set q true, s.out, s.mt⟩ := by simp [CS.mark, hop]
  have hl3 := CS.left_mark (x := y) (pc := (q : Int)) hs
  rw [hm] at hl3
  have HL3 := Lib.hid hl3
  have HMK := Lib.hid hm
  obtain ⟨bA, oA, y', rfl, hbA, hy', hyI, hyc⟩ := hA.at hq
  rw [hy] at hy'
  obtain rfl : y = y' := by injection hy'
  have hM1 := hM.setSeen q
  have hK1 := Kpt.set (g := g) (gs := gs) O W (p := ⟨gs, q, none⟩) (.inr rfl) (.bool true)
  have e0 := hM1.blk.cell 0
  simp only [List.getElem?_toArray, List.getElem?_cons_zero] at e0
  obtain ⟨c4, c5, c6, c7, c8⟩ := hyc _ (.of_below hM1.below (Nat.le_refl _))
  obtain ⟨hla, hlo, _, _⟩ := hL y (List.mem_of_getElem? hy)
  rw [hA.len] at hla hlo
  have HO := Lib.hid (hlo (by omega))
  have hos : s.out.length ≤ 10000 := by omega
  have HM := Lib.hid hM
  have HM1 := Lib.hid hM1
  have HK1 := Lib.hid hK1
  have HCC := Lib.hid HC
  have HY := Lib.hid hy
  have HS := Lib.hid hs
  have HND := Lib.hid hnd
  have HLN := Lib.hid hl
  have HOL := Lib.hid ho
  have HOP := Lib.hid hop
  have HQ := Lib.hid hq
  have hdd : s.mt = false ∨ s.mt = true ∧ lng = true := by have h := HND.out; unfold CS.done at h; cases h1 : s.mt <;> cases h2 : lng <;> simp_all
  clear hM hM1 hK1 HC hy hy' hs hnd hl ho hm hl3 hla hlo hA hL hyc hyI hbA hq hop
  go_enter Try.func75, Try.ntmps75
  rcases hdd with hmt | ⟨hmt, hlg⟩
  · rw [hmt] at b7
    have HMT := Lib.hid hmt
    clear hmt
    go_upto_region 2 with fail
    generalize W.setCell ⟨gs, q, none⟩ (.bool true) = W1 at HM1 HK1 e0 c4 c5 c6 c7 c8 ⊢
    clear b0 b4 b5 b6 b7 c2 f2
    go_upto_region 3 with fail
    have hbx := Blk.new W1 60 #[.int .i64 y.op, .int .i64 y.out, .int .i64 y.arg, .slice y.A y.n y.c, .int .i64 y.at_]
    have d0 := hbx.cell 0
    have d1 := hbx.cell 1
    have d2 := hbx.cell 2
    have d4 := hbx.cell 4
    simp only [List.getElem?_toArray, List.getElem?_cons_zero, List.getElem?_cons_succ] at d0 d1 d2 d4
    have HBX := Lib.hid hbx
    have hM2 := HM1.out.alloc (.cells #[.int .i64 y.op, .int .i64 y.out, .int .i64 y.arg, .slice y.A y.n y.c, .int .i64 y.at_] 60)
    have HM2 := Lib.hid hM2
    have HK2 := Lib.hid (HK1.out.trans (Kpt.alloc g gs O W1 (.cells #[.int .i64 y.op, .int .i64 y.out, .int .i64 y.arg, .slice y.A y.n y.c, .int .i64 y.at_] 60)))
    have hx1 : W1.heap.size ≠ g := Blk.ne hbx hM2.blk (by decide)
    have hx2 : W1.heap.size ≠ gs := Blk.ne hbx hM2.seenB (by decide)
    have hx3 : (Value.slice O 0 0).ownBlock ≠ some W1.heap.size := by rw [ownBlock_len O 0 0 s.out.length oc]; exact own_ne_blk hM2.own hbx (by decide)
    have HX1 := Lib.hid hx1
    have HX2 := Lib.hid hx2
    have HX3 := Lib.hid hx3
    have b3 := hM2.blk.cell 3
    have b6 := hM2.blk.cell 6
    have b7 := hM2.blk.cell 7
    have f7 := hM2.blk.frozen 7
    simp only [List.getElem?_toArray, List.getElem?_cons_zero, List.getElem?_cons_succ] at b3 b6 b7
    clear hbx hM2 hx1 hx2 hx3 e0 c4 c5 c6 c7 c8 HM1 HK1
    generalize W1.alloc (.cells #[.int .i64 y.op, .int .i64 y.out, .int .i64 y.arg, .slice y.A y.n y.c, .int .i64 y.at_] 60) = W2 at d0 d1 d2 d4 HM2 HBX HK2 b3 b6 b7 f7 ⊢
    generalize W1.heap.size = gx at d0 d1 d2 d4 HBX HX1 HX2 HX3 ⊢
    rw [HOP.out] at d0
    go_wp2_with fail
    refine (HCC.out ⟨s.seen.set q true, s.out, s.mt⟩ W2 O oc y.out (by have := HL3.out; omega) HM2.out (by simp [HLN.out]) (by have h1 := HL3.out; have h2 := HOL.out; show s.out.length + _ ≤ n; omega) HO.out.1 HO.out.2).mono ?_
    rintro e W5 ⟨rfl, s5, O5, oc5, hM5, hK5, hR5⟩
    have HM5 := Lib.hid hM5
    have HR5 := Lib.hid hR5
    have HK5 := Lib.hid (HK2.out.trans hK5)
    clear hM5 hR5 hK5
    go_wp2_with fail
    first | (refine bodyPost_ret (results_none (by rfl) _ _ _) (by rfl) ?_) | (refine bodyPost_end (results_none (by rfl) _ _ _) (by rfl) ?_)
    exact ⟨rfl, s5, O5, oc5, HM5.out, HK5.out, .step y HY.out HS.out HND.out (by rw [HMK.out]; simpa [succs, HOP.out] using HR5.out)⟩
  · rw [hmt] at b7
    have HMT := Lib.hid hmt
    rw [hlg] at b4
    clear hmt
    go_upto_region 2 with fail
    generalize W.setCell ⟨gs, q, none⟩ (.bool true) = W1 at HM1 HK1 e0 c4 c5 c6 c7 c8 ⊢
    clear b0 b4 b5 b6 b7 c2 f2
    go_upto_region 3 with fail
    have hbx := Blk.new W1 60 #[.int .i64 y.op, .int .i64 y.out, .int .i64 y.arg, .slice y.A y.n y.c, .int .i64 y.at_]
    have d0 := hbx.cell 0
    have d1 := hbx.cell 1
    have d2 := hbx.cell 2
    have d4 := hbx.cell 4
    simp only [List.getElem?_toArray, List.getElem?_cons_zero, List.getElem?_cons_succ] at d0 d1 d2 d4
    have HBX := Lib.hid hbx
    have hM2 := HM1.out.alloc (.cells #[.int .i64 y.op, .int .i64 y.out, .int .i64 y.arg, .slice y.A y.n y.c, .int .i64 y.at_] 60)
    have HM2 := Lib.hid hM2
    have HK2 := Lib.hid (HK1.out.trans (Kpt.alloc g gs O W1 (.cells #[.int .i64 y.op, .int .i64 y.out, .int .i64 y.arg, .slice y.A y.n y.c, .int .i64 y.at_] 60)))
    have hx1 : W1.heap.size ≠ g := Blk.ne hbx hM2.blk (by decide)
    have hx2 : W1.heap.size ≠ gs := Blk.ne hbx hM2.seenB (by decide)
    have hx3 : (Value.slice O 0 0).ownBlock ≠ some W1.heap.size := by rw [ownBlock_len O 0 0 s.out.length oc]; exact own_ne_blk hM2.own hbx (by decide)
    have HX1 := Lib.hid hx1
    have HX2 := Lib.hid hx2
    have HX3 := Lib.hid hx3
    have b3 := hM2.blk.cell 3
    have b6 := hM2.blk.cell 6
    have b7 := hM2.blk.cell 7
    have f7 := hM2.blk.frozen 7
    simp only [List.getElem?_toArray, List.getElem?_cons_zero, List.getElem?_cons_succ] at b3 b6 b7
    clear hbx hM2 hx1 hx2 hx3 e0 c4 c5 c6 c7 c8 HM1 HK1
    generalize W1.alloc (.cells #[.int .i64 y.op, .int .i64 y.out, .int .i64 y.arg, .slice y.A y.n y.c, .int .i64 y.at_] 60) = W2 at d0 d1 d2 d4 HM2 HBX HK2 b3 b6 b7 f7 ⊢
    generalize W1.heap.size = gx at d0 d1 d2 d4 HBX HX1 HX2 HX3 ⊢
    rw [HOP.out] at d0
    go_wp2_with fail
    refine (HCC.out ⟨s.seen.set q true, s.out, s.mt⟩ W2 O oc y.out (by have := HL3.out; omega) HM2.out (by simp [HLN.out]) (by have h1 := HL3.out; have h2 := HOL.out; show s.out.length + _ ≤ n; omega) HO.out.1 HO.out.2).mono ?_
    rintro e W5 ⟨rfl, s5, O5, oc5, hM5, hK5, hR5⟩
    have HM5 := Lib.hid hM5
    have HR5 := Lib.hid hR5
    have HK5 := Lib.hid (HK2.out.trans hK5)
    clear hM5 hR5 hK5
    go_wp2_with fail
    first | (refine bodyPost_ret (results_none (by rfl) _ _ _) (by rfl) ?_) | (refine bodyPost_end (results_none (by rfl) _ _ _) (by rfl) ?_)
    exact ⟨rfl, s5, O5, oc5, HM5.out, HK5.out, .step y HY.out HS.out HND.out (by rw [HMK.out]; simpa [succs, HOP.out] using HR5.out)⟩

set_option maxRecDepth 20000 in
set_option maxHeartbeats 2000000 in
theorem come_op5t {w W : World} {A : Option Addr} {n c : Nat} {st cp at_ : Int} {lng : Bool} {g gs : Nat} {L : List MI} {s : CS} {O : Option Addr} {oc q : Nat} (HC : ComeN w A n c st cp at_ lng g gs L s.left) (hM : WkM w W A n c st cp at_ lng g gs s.seen O oc s.out s.mt) (hA : PgIn w A n c L) (hL : Leads L) (hn : n ≤ 10000) (hl : s.seen.length = n) (ho : s.out.length + s.left ≤ n) (hq : q < n) (hs : s.seen[q]? = some false) (hnd : s.done lng = false) {y : MI} (hy : L[q]? = some y) (hop : y.op = 5) (hT : AtT at_ y = true) : Calls Try.prog 75 #[.pointer (some ⟨g, 0, none⟩), .int .i64 (q : Int)] W (ComeB w W A n c st cp at_ lng g gs L O s (q : Int)) := by
  have b0 := hM.blk.cell 0
  have b4 := hM.blk.cell 4
  have b5 := hM.blk.cell 5
  have b6 := hM.blk.cell 6
  have b7 := hM.blk.cell 7
  simp only [List.getElem?_toArray, List.getElem?_cons_zero, List.getElem?_cons_succ] at b0 b4 b5 b6 b7
  have hqi : (q : Int) < (n : Int) := by omega
  have c2 := hM.seenAt hs
  have f2 := hM.seenB.frozen q
  have hm : s.mark y (q : Int) = ⟨s.seen.set q true, s.out, s.mt⟩ := by simp [CS.mark, hop]
  have hl3 := CS.left_mark (x := y) (pc := (q : Int)) hs
  rw [hm] at hl3
  have HL3 := Lib.hid hl3
  have HMK := Lib.hid hm
  obtain ⟨bA, oA, y', rfl, hbA, hy', hyI, hyc⟩ := hA.at hq
  rw [hy] at hy'
  obtain rfl : y = y' := by injection hy'
  have hM1 := hM.setSeen q
  have hK1 := Kpt.set (g := g) (gs := gs) O W (p := ⟨gs, q, none⟩) (.inr rfl) (.bool true)
  have e0 := hM1.blk.cell 0
  simp only [List.getElem?_toArray, List.getElem?_cons_zero] at e0
  obtain ⟨c4, c5, c6, c7, c8⟩ := hyc _ (.of_below hM1.below (Nat.le_refl _))
  obtain ⟨hla, hlo, _, _⟩ := hL y (List.mem_of_getElem? hy)
  rw [hA.len] at hla hlo
  have HO := Lib.hid (hlo (by omega))
  have hTT : (bits .and .i64 at_ y.at_ == 0) = false := by have := hT; unfold AtT bne at this; simpa using this
  have hos : s.out.length ≤ 10000 := by omega
  have HM := Lib.hid hM
  have HM1 := Lib.hid hM1
  have HK1 := Lib.hid hK1
  have HCC := Lib.hid HC
  have HY := Lib.hid hy
  have HS := Lib.hid hs
  have HND := Lib.hid hnd
  have HLN := Lib.hid hl
  have HOL := Lib.hid ho
  have HOP := Lib.hid hop
  have HQ := Lib.hid hq
  have HTQ := Lib.hid hT
  have hdd : s.mt = false ∨ s.mt = true ∧ lng = true := by have h := HND.out; unfold CS.done at h; cases h1 : s.mt <;> cases h2 : lng <;> simp_all
  clear hM hM1 hK1 HC hy hy' hs hnd hl ho hm hl3 hla hlo hA hL hyc hyI hbA hq hop hT
  go_enter Try.func75, Try.ntmps75
  rcases hdd with hmt | ⟨hmt, hlg⟩
  · rw [hmt] at b7
    have HMT := Lib.hid hmt
    clear hmt
    go_upto_region 2 with fail
    generalize W.setCell ⟨gs, q, none⟩ (.bool true) = W1 at HM1 HK1 e0 c4 c5 c6 c7 c8 ⊢
    clear b0 b4 b5 b6 b7 c2 f2
    go_upto_region 3 with fail
    have hbx := Blk.new W1 60 #[.int .i64 y.op, .int .i64 y.out, .int .i64 y.arg, .slice y.A y.n y.c, .int .i64 y.at_]
    have d0 := hbx.cell 0
    have d1 := hbx.cell 1
    have d2 := hbx.cell 2
    have d4 := hbx.cell 4
    simp only [List.getElem?_toArray, List.getElem?_cons_zero, List.getElem?_cons_succ] at d0 d1 d2 d4
    have HBX := Lib.hid hbx
    have hM2 := HM1.out.alloc (.cells #[.int .i64 y.op, .int .i64 y.out, .int .i64 y.arg, .slice y.A y.n y.c, .int .i64 y.at_] 60)
    have HM2 := Lib.hid hM2
    have HK2 := Lib.hid (HK1.out.trans (Kpt.alloc g gs O W1 (.cells #[.int .i64 y.op, .int .i64 y.out, .int .i64 y.arg, .slice y.A y.n y.c, .int .i64 y.at_] 60)))
    have hx1 : W1.heap.size ≠ g := Blk.ne hbx hM2.blk (by decide)
    have hx2 : W1.heap.size ≠ gs := Blk.ne hbx hM2.seenB (by decide)
    have hx3 : (Value.slice O 0 0).ownBlock ≠ some W1.heap.size := by rw [ownBlock_len O 0 0 s.out.length oc]; exact own_ne_blk hM2.own hbx (by decide)
    have HX1 := Lib.hid hx1
    have HX2 := Lib.hid hx2
    have HX3 := Lib.hid hx3
    have b3 := hM2.blk.cell 3
    have b6 := hM2.blk.cell 6
    have b7 := hM2.blk.cell 7
    have f7 := hM2.blk.frozen 7
    simp only [List.getElem?_toArray, List.getElem?_cons_zero, List.getElem?_cons_succ] at b3 b6 b7
    clear hbx hM2 hx1 hx2 hx3 e0 c4 c5 c6 c7 c8 HM1 HK1
    generalize W1.alloc (.cells #[.int .i64 y.op, .int .i64 y.out, .int .i64 y.arg, .slice y.A y.n y.c, .int .i64 y.at_] 60) = W2 at d0 d1 d2 d4 HM2 HBX HK2 b3 b6 b7 f7 ⊢
    generalize W1.heap.size = gx at d0 d1 d2 d4 HBX HX1 HX2 HX3 ⊢
    rw [HOP.out] at d0
    go_upto_region 14 with fail
    go_region
    go_wp2_with fail
    refine (HCC.out ⟨s.seen.set q true, s.out, s.mt⟩ W2.drew O oc y.out (by have := HL3.out; omega) HM2.out.drew (by simp [HLN.out]) (by have h1 := HL3.out; have h2 := HOL.out; show s.out.length + _ ≤ n; omega) HO.out.1 HO.out.2).mono ?_
    rintro e W5 ⟨rfl, s5, O5, oc5, hM5, hK5, hR5⟩
    have HM5 := Lib.hid hM5
    have HR5 := Lib.hid hR5
    have HK5 := Lib.hid (HK2.out.drew.trans hK5)
    clear hM5 hR5 hK5
    go_wp2_with fail
    first | (refine bodyPost_ret (results_none (by rfl) _ _ _) (by rfl) ?_) | (refine bodyPost_end (results_none (by rfl) _ _ _) (by rfl) ?_)
    exact ⟨rfl, s5, O5, oc5, HM5.out, HK5.out, .step y HY.out HS.out HND.out (by rw [HMK.out]; simpa [succs, HOP.out, HTQ.out] using HR5.out)⟩
  · rw [hmt] at b7
    have HMT := Lib.hid hmt
    rw [hlg] at b4
    clear hmt
    go_upto_region 2 with fail
    generalize W.setCell ⟨gs, q, none⟩ (.bool true) = W1 at HM1 HK1 e0 c4 c5 c6 c7 c8 ⊢
    clear b0 b4 b5 b6 b7 c2 f2
    go_upto_region 3 with fail
    have hbx := Blk.new W1 60 #[.int .i64 y.op, .int .i64 y.out, .int .i64 y.arg, .slice y.A y.n y.c, .int .i64 y.at_]
    have d0 := hbx.cell 0
    have d1 := hbx.cell 1
    have d2 := hbx.cell 2
    have d4 := hbx.cell 4
    simp only [List.getElem?_toArray, List.getElem?_cons_zero, List.getElem?_cons_succ] at d0 d1 d2 d4
    have HBX := Lib.hid hbx
    have hM2 := HM1.out.alloc (.cells #[.int .i64 y.op, .int .i64 y.out, .int .i64 y.arg, .slice y.A y.n y.c, .int .i64 y.at_] 60)
    have HM2 := Lib.hid hM2
    have HK2 := Lib.hid (HK1.out.trans (Kpt.alloc g gs O W1 (.cells #[.int .i64 y.op, .int .i64 y.out, .int .i64 y.arg, .slice y.A y.n y.c, .int .i64 y.at_] 60)))
    have hx1 : W1.heap.size ≠ g := Blk.ne hbx hM2.blk (by decide)
    have hx2 : W1.heap.size ≠ gs := Blk.ne hbx hM2.seenB (by decide)
    have hx3 : (Value.slice O 0 0).ownBlock ≠ some W1.heap.size := by rw [ownBlock_len O 0 0 s.out.length oc]; exact own_ne_blk hM2.own hbx (by decide)
    have HX1 := Lib.hid hx1
    have HX2 := Lib.hid hx2
    have HX3 := Lib.hid hx3
    have b3 := hM2.blk.cell 3
    have b6 := hM2.blk.cell 6
    have b7 := hM2.blk.cell 7
    have f7 := hM2.blk.frozen 7
    simp only [List.getElem?_toArray, List.getElem?_cons_zero, List.getElem?_cons_succ] at b3 b6 b7
    clear hbx hM2 hx1 hx2 hx3 e0 c4 c5 c6 c7 c8 HM1 HK1
    generalize W1.alloc (.cells #[.int .i64 y.op, .int .i64 y.out, .int .i64 y.arg, .slice y.A y.n y.c, .int .i64 y.at_] 60) = W2 at d0 d1 d2 d4 HM2 HBX HK2 b3 b6 b7 f7 ⊢
    generalize W1.heap.size = gx at d0 d1 d2 d4 HBX HX1 HX2 HX3 ⊢
    rw [HOP.out] at d0
    go_upto_region 14 with fail
    go_region
    go_wp2_with fail
    refine (HCC.out ⟨s.seen.set q true, s.out, s.mt⟩ W2.drew O oc y.out (by have := HL3.out; omega) HM2.out.drew (by simp [HLN.out]) (by have h1 := HL3.out; have h2 := HOL.out; show s.out.length + _ ≤ n; omega) HO.out.1 HO.out.2).mono ?_
    rintro e W5 ⟨rfl, s5, O5, oc5, hM5, hK5, hR5⟩
    have HM5 := Lib.hid hM5
    have HR5 := Lib.hid hR5
    have HK5 := Lib.hid (HK2.out.drew.trans hK5)
    clear hM5 hR5 hK5
    go_wp2_with fail
    first | (refine bodyPost_ret (results_none (by rfl) _ _ _) (by rfl) ?_) | (refine bodyPost_end (results_none (by rfl) _ _ _) (by rfl) ?_)
    exact ⟨rfl, s5, O5, oc5, HM5.out, HK5.out, .step y HY.out HS.out HND.out (by rw [HMK.out]; simpa [succs, HOP.out, HTQ.out] using HR5.out)⟩

set_option maxRecDepth 20000 in
set_option maxHeartbeats 2000000 in
theorem come_op5f {w W : World} {A : Option Addr} {n c : Nat} {st cp at_ : Int} {lng : Bool} {g gs : Nat} {L : List MI} {s : CS} {O : Option Addr} {oc q : Nat} (HC : ComeN w A n c st cp at_ lng g gs L s.left) (hM : WkM w W A n c st cp at_ lng g gs s.seen O oc s.out s.mt) (hA : PgIn w A n c L) (hL : Leads L) (hn : n ≤ 10000) (hl : s.seen.length = n) (ho : s.out.length + s.left ≤ n) (hq : q < n) (hs : s.seen[q]? = some false) (hnd : s.done lng = false) {y : MI} (hy : L[q]? = some y) (hop : y.op = 5) (hT : AtT at_ y = false) : Calls Try.prog 75 #[.pointer (some ⟨g, 0, none⟩), .int .i64 (q : Int)] W (ComeB w W A n c st cp at_ lng g gs L O s (q : Int)) := by
  have b0 := hM.blk.cell 0
  have b4 := hM.blk.cell 4
  have b5 := hM.blk.cell 5
  have b6 := hM.blk.cell 6
  have b7 := hM.blk.cell 7
  simp only [List.getElem?_toArray, List.getElem?_cons_zero, List.getElem?_cons_succ] at b0 b4 b5 b6 b7
  have hqi : (q : Int) < (n : Int) := by omega
  have c2 := hM.seenAt hs
  have f2 := hM.seenB.frozen q
  have hm : s.mark y (q : Int) = ⟨s.seen.set q true, s.out, s.mt⟩ := by simp [CS.mark, hop]
  have hl3 := CS.left_mark (x := y) (pc := (q : Int)) hs
  rw [hm] at hl3
  have HL3 := Lib.hid hl3
  have HMK := Lib.hid hm
  obtain ⟨bA, oA, y', rfl, hbA, hy', hyI, hyc⟩ := hA.at hq
  rw [hy] at hy'
  obtain rfl : y = y' := by injection hy'
  have hM1 := hM.setSeen q
  have hK1 := Kpt.set (g := g) (gs := gs) O W (p := ⟨gs, q, none⟩) (.inr rfl) (.bool true)
  have e0 := hM1.blk.cell 0
  simp only [List.getElem?_toArray, List.getElem?_cons_zero] at e0
  obtain ⟨c4, c5, c6, c7, c8⟩ := hyc _ (.of_below hM1.below (Nat.le_refl _))
  obtain ⟨hla, hlo, _, _⟩ := hL y (List.mem_of_getElem? hy)
  rw [hA.len] at hla hlo
  have HO := Lib.hid (hlo (by omega))
  have hTT : (bits .and .i64 at_ y.at_ == 0) = true := by have := hT; unfold AtT bne at this; simpa using this
  have hos : s.out.length ≤ 10000 := by omega
  have HM := Lib.hid hM
  have HM1 := Lib.hid hM1
  have HK1 := Lib.hid hK1
  have HCC := Lib.hid HC
  have HY := Lib.hid hy
  have HS := Lib.hid hs
  have HND := Lib.hid hnd
  have HLN := Lib.hid hl
  have HOL := Lib.hid ho
  have HOP := Lib.hid hop
  have HQ := Lib.hid hq
  have HTQ := Lib.hid hT
  have hdd : s.mt = false ∨ s.mt = true ∧ lng = true := by have h := HND.out; unfold CS.done at h; cases h1 : s.mt <;> cases h2 : lng <;> simp_all
  clear hM hM1 hK1 HC hy hy' hs hnd hl ho hm hl3 hla hlo hA hL hyc hyI hbA hq hop hT
  go_enter Try.func75, Try.ntmps75
  rcases hdd with hmt | ⟨hmt, hlg⟩
  · rw [hmt] at b7
    have HMT := Lib.hid hmt
    clear hmt
    go_upto_region 2 with fail
    generalize W.setCell ⟨gs, q, none⟩ (.bool true) = W1 at HM1 HK1 e0 c4 c5 c6 c7 c8 ⊢
    clear b0 b4 b5 b6 b7 c2 f2
    go_upto_region 3 with fail
    have hbx := Blk.new W1 60 #[.int .i64 y.op, .int .i64 y.out, .int .i64 y.arg, .slice y.A y.n y.c, .int .i64 y.at_]
    have d0 := hbx.cell 0
    have d1 := hbx.cell 1
    have d2 := hbx.cell 2
    have d4 := hbx.cell 4
    simp only [List.getElem?_toArray, List.getElem?_cons_zero, List.getElem?_cons_succ] at d0 d1 d2 d4
    have HBX := Lib.hid hbx
    have hM2 := HM1.out.alloc (.cells #[.int .i64 y.op, .int .i64 y.out, .int .i64 y.arg, .slice y.A y.n y.c, .int .i64 y.at_] 60)
    have HM2 := Lib.hid hM2
    have HK2 := Lib.hid (HK1.out.trans (Kpt.alloc g gs O W1 (.cells #[.int .i64 y.op, .int .i64 y.out, .int .i64 y.arg, .slice y.A y.n y.c, .int .i64 y.at_] 60)))
    have hx1 : W1.heap.size ≠ g := Blk.ne hbx hM2.blk (by decide)
    have hx2 : W1.heap.size ≠ gs := Blk.ne hbx hM2.seenB (by decide)
    have hx3 : (Value.slice O 0 0).ownBlock ≠ some W1.heap.size := by rw [ownBlock_len O 0 0 s.out.length oc]; exact own_ne_blk hM2.own hbx (by decide)
    have HX1 := Lib.hid hx1
    have HX2 := Lib.hid hx2
    have HX3 := Lib.hid hx3
    have b3 := hM2.blk.cell 3
    have b6 := hM2.blk.cell 6
    have b7 := hM2.blk.cell 7
    have f7 := hM2.blk.frozen 7
    simp only [List.getElem?_toArray, List.getElem?_cons_zero, List.getElem?_cons_succ] at b3 b6 b7
    clear hbx hM2 hx1 hx2 hx3 e0 c4 c5 c6 c7 c8 HM1 HK1
    generalize W1.alloc (.cells #[.int .i64 y.op, .int .i64 y.out, .int .i64 y.arg, .slice y.A y.n y.c, .int .i64 y.at_] 60) = W2 at d0 d1 d2 d4 HM2 HBX HK2 b3 b6 b7 f7 ⊢
    generalize W1.heap.size = gx at d0 d1 d2 d4 HBX HX1 HX2 HX3 ⊢
    rw [HOP.out] at d0
    go_upto_region 14 with fail
    go_region
    go_wp2_with fail
    first | (refine bodyPost_ret (results_none (by rfl) _ _ _) (by rfl) ?_) | (refine bodyPost_end (results_none (by rfl) _ _ _) (by rfl) ?_)
    exact ⟨rfl, ⟨s.seen.set q true, s.out, s.mt⟩, O, oc, HM2.out.drew, HK2.out.drew, .step y HY.out HS.out HND.out (by rw [HMK.out]; simpa [succs, HOP.out, HTQ.out] using Runs.nil _)⟩
  · rw [hmt] at b7
    have HMT := Lib.hid hmt
    rw [hlg] at b4
    clear hmt
    go_upto_region 2 with fail
    generalize W.setCell ⟨gs, q, none⟩ (.bool true) = W1 at HM1 HK1 e0 c4 c5 c6 c7 c8 ⊢
    clear b0 b4 b5 b6 b7 c2 f2
    go_upto_region 3 with fail
    have hbx := Blk.new W1 60 #[.int .i64 y.op, .int .i64 y.out, .int .i64 y.arg, .slice y.A y.n y.c, .int .i64 y.at_]
    have d0 := hbx.cell 0
    have d1 := hbx.cell 1
    have d2 := hbx.cell 2
    have d4 := hbx.cell 4
    simp only [List.getElem?_toArray, List.getElem?_cons_zero, List.getElem?_cons_succ] at d0 d1 d2 d4
    have HBX := Lib.hid hbx
    have hM2 := HM1.out.alloc (.cells #[.int .i64 y.op, .int .i64 y.out, .int .i64 y.arg, .slice y.A y.n y.c, .int .i64 y.at_] 60)
    have HM2 := Lib.hid hM2
    have HK2 := Lib.hid (HK1.out.trans (Kpt.alloc g gs O W1 (.cells #[.int .i64 y.op, .int .i64 y.out, .int .i64 y.arg, .slice y.A y.n y.c, .int .i64 y.at_] 60)))
    have hx1 : W1.heap.size ≠ g := Blk.ne hbx hM2.blk (by decide)
    have hx2 : W1.heap.size ≠ gs := Blk.ne hbx hM2.seenB (by decide)
    have hx3 : (Value.slice O 0 0).ownBlock ≠ some W1.heap.size := by rw [ownBlock_len O 0 0 s.out.length oc]; exact own_ne_blk hM2.own hbx (by decide)
    have HX1 := Lib.hid hx1
    have HX2 := Lib.hid hx2
    have HX3 := Lib.hid hx3
    have b3 := hM2.blk.cell 3
    have b6 := hM2.blk.cell 6
    have b7 := hM2.blk.cell 7
    have f7 := hM2.blk.frozen 7
    simp only [List.getElem?_toArray, List.getElem?_cons_zero, List.getElem?_cons_succ] at b3 b6 b7
    clear hbx hM2 hx1 hx2 hx3 e0 c4 c5 c6 c7 c8 HM1 HK1
    generalize W1.alloc (.cells #[.int .i64 y.op, .int .i64 y.out, .int .i64 y.arg, .slice y.A y.n y.c, .int .i64 y.at_] 60) = W2 at d0 d1 d2 d4 HM2 HBX HK2 b3 b6 b7 f7 ⊢
    generalize W1.heap.size = gx at d0 d1 d2 d4 HBX HX1 HX2 HX3 ⊢
    rw [HOP.out] at d0
    go_upto_region 14 with fail
    go_region
    go_wp2_with fail
    first | (refine bodyPost_ret (results_none (by rfl) _ _ _) (by rfl) ?_) | (refine bodyPost_end (results_none (by rfl) _ _ _) (by rfl) ?_)
    exact ⟨rfl, ⟨s.seen.set q true, s.out, s.mt⟩, O, oc, HM2.out.drew, HK2.out.drew, .step y HY.out HS.out HND.out (by rw [HMK.out]; simpa [succs, HOP.out, HTQ.out] using Runs.nil _)⟩

set_option maxRecDepth 20000 in
set_option maxHeartbeats 2000000 in
theorem come_op6 {w W : World} {A : Option Addr} {n c : Nat} {st cp at_ : Int} {lng : Bool} {g gs : Nat} {L : List MI} {s : CS} {O : Option Addr} {oc q : Nat} (HC : ComeN w A n c st cp at_ lng g gs L s.left) (hM : WkM w W A n c st cp at_ lng g gs s.seen O oc s.out s.mt) (hA : PgIn w A n c L) (hL : Leads L) (hn : n ≤ 10000) (hl : s.seen.length = n) (ho : s.out.length + s.left ≤ n) (hq : q < n) (hs : s.seen[q]? = some false) (hnd : s.done lng = false) {y : MI} (hy : L[q]? = some y) (hop : y.op = 6) : Calls Try.prog 75 #[.pointer (some ⟨g, 0, none⟩), .int .i64 (q : Int)] W (ComeB w W A n c st cp at_ lng g gs L O s (q : Int)) := by
  have b0 := hM.blk.cell 0
  have b4 := hM.blk.cell 4
  have b5 := hM.blk.cell 5
  have b6 := hM.blk.cell 6
  have b7 := hM.blk.cell 7
  simp only [List.getElem?_toArray, List.getElem?_cons_zero, List.getElem?_cons_succ] at b0 b4 b5 b6 b7
  have hqi : (q : Int) < (n : Int) := by omega
  have c2 := hM.seenAt hs
  have f2 := hM.seenB.frozen q
  have hm : s.mark y (q : Int) = ⟨s.seen.set q true, s.out, s.mt⟩ := by simp [CS.mark, hop]
  have hl3 := CS.left_mark (x := y) (pc := (q : Int)) hs
  rw [hm] at hl3
  have HL3 := Lib.hid hl3
  have HMK := Lib.hid hm
  obtain ⟨bA, oA, y', rfl, hbA, hy', hyI, hyc⟩ := hA.at hq
  rw [hy] at hy'
  obtain rfl : y = y' := by injection hy'
  have hM1 := hM.setSeen q
  have hK1 := Kpt.set (g := g) (gs := gs) O W (p := ⟨gs, q, none⟩) (.inr rfl) (.bool true)
  have e0 := hM1.blk.cell 0
  simp only [List.getElem?_toArray, List.getElem?_cons_zero] at e0
  obtain ⟨c4, c5, c6, c7, c8⟩ := hyc _ (.of_below hM1.below (Nat.le_refl _))
  obtain ⟨hla, hlo, _, _⟩ := hL y (List.mem_of_getElem? hy)
  rw [hA.len] at hla hlo
  have hos : s.out.length ≤ 10000 := by omega
  have HM := Lib.hid hM
  have HM1 := Lib.hid hM1
  have HK1 := Lib.hid hK1
  have HCC := Lib.hid HC
  have HY := Lib.hid hy
  have HS := Lib.hid hs
  have HND := Lib.hid hnd
  have HLN := Lib.hid hl
  have HOL := Lib.hid ho
  have HOP := Lib.hid hop
  have HQ := Lib.hid hq
  have hdd : s.mt = false ∨ s.mt = true ∧ lng = true := by have h := HND.out; unfold CS.done at h; cases h1 : s.mt <;> cases h2 : lng <;> simp_all
  clear hM hM1 hK1 HC hy hy' hs hnd hl ho hm hl3 hla hlo hA hL hyc hyI hbA hq hop
  go_enter Try.func75, Try.ntmps75
  rcases hdd with hmt | ⟨hmt, hlg⟩
  · rw [hmt] at b7
    have HMT := Lib.hid hmt
    clear hmt
    go_upto_region 2 with fail
    generalize W.setCell ⟨gs, q, none⟩ (.bool true) = W1 at HM1 HK1 e0 c4 c5 c6 c7 c8 ⊢
    clear b0 b4 b5 b6 b7 c2 f2
    go_upto_region 3 with fail
    have hbx := Blk.new W1 60 #[.int .i64 y.op, .int .i64 y.out, .int .i64 y.arg, .slice y.A y.n y.c, .int .i64 y.at_]
    have d0 := hbx.cell 0
    have d1 := hbx.cell 1
    have d2 := hbx.cell 2
    have d4 := hbx.cell 4
    simp only [List.getElem?_toArray, List.getElem?_cons_zero, List.getElem?_cons_succ] at d0 d1 d2 d4
    have HBX := Lib.hid hbx
    have hM2 := HM1.out.alloc (.cells #[.int .i64 y.op, .int .i64 y.out, .int .i64 y.arg, .slice y.A y.n y.c, .int .i64 y.at_] 60)
    have HM2 := Lib.hid hM2
    have HK2 := Lib.hid (HK1.out.trans (Kpt.alloc g gs O W1 (.cells #[.int .i64 y.op, .int .i64 y.out, .int .i64 y.arg, .slice y.A y.n y.c, .int .i64 y.at_] 60)))
    have hx1 : W1.heap.size ≠ g := Blk.ne hbx hM2.blk (by decide)
    have hx2 : W1.heap.size ≠ gs := Blk.ne hbx hM2.seenB (by decide)
    have hx3 : (Value.slice O 0 0).ownBlock ≠ some W1.heap.size := by rw [ownBlock_len O 0 0 s.out.length oc]; exact own_ne_blk hM2.own hbx (by decide)
    have HX1 := Lib.hid hx1
    have HX2 := Lib.hid hx2
    have HX3 := Lib.hid hx3
    have b3 := hM2.blk.cell 3
    have b6 := hM2.blk.cell 6
    have b7 := hM2.blk.cell 7
    have f7 := hM2.blk.frozen 7
    simp only [List.getElem?_toArray, List.getElem?_cons_zero, List.getElem?_cons_succ] at b3 b6 b7
    clear hbx hM2 hx1 hx2 hx3 e0 c4 c5 c6 c7 c8 HM1 HK1
    generalize W1.alloc (.cells #[.int .i64 y.op, .int .i64 y.out, .int .i64 y.arg, .slice y.A y.n y.c, .int .i64 y.at_] 60) = W2 at d0 d1 d2 d4 HM2 HBX HK2 b3 b6 b7 f7 ⊢
    generalize W1.heap.size = gx at d0 d1 d2 d4 HBX HX1 HX2 HX3 ⊢
    rw [HOP.out] at d0
    go_wp2_with fail
    first | (refine bodyPost_ret (results_none (by rfl) _ _ _) (by rfl) ?_) | (refine bodyPost_end (results_none (by rfl) _ _ _) (by rfl) ?_)
    exact ⟨rfl, ⟨s.seen.set q true, s.out, s.mt⟩, O, oc, HM2.out, HK2.out, .step y HY.out HS.out HND.out (by rw [HMK.out]; simpa [succs, HOP.out] using Runs.nil _)⟩
  · rw [hmt] at b7
    have HMT := Lib.hid hmt
    rw [hlg] at b4
    clear hmt
    go_upto_region 2 with fail
    generalize W.setCell ⟨gs, q, none⟩ (.bool true) = W1 at HM1 HK1 e0 c4 c5 c6 c7 c8 ⊢
    clear b0 b4 b5 b6 b7 c2 f2
    go_upto_region 3 with fail
    have hbx := Blk.new W1 60 #[.int .i64 y.op, .int .i64 y.out, .int .i64 y.arg, .slice y.A y.n y.c, .int .i64 y.at_]
    have d0 := hbx.cell 0
    have d1 := hbx.cell 1
    have d2 := hbx.cell 2
    have d4 := hbx.cell 4
    simp only [List.getElem?_toArray, List.getElem?_cons_zero, List.getElem?_cons_succ] at d0 d1 d2 d4
    have HBX := Lib.hid hbx
    have hM2 := HM1.out.alloc (.cells #[.int .i64 y.op, .int .i64 y.out, .int .i64 y.arg, .slice y.A y.n y.c, .int .i64 y.at_] 60)
    have HM2 := Lib.hid hM2
    have HK2 := Lib.hid (HK1.out.trans (Kpt.alloc g gs O W1 (.cells #[.int .i64 y.op, .int .i64 y.out, .int .i64 y.arg, .slice y.A y.n y.c, .int .i64 y.at_] 60)))
    have hx1 : W1.heap.size ≠ g := Blk.ne hbx hM2.blk (by decide)
    have hx2 : W1.heap.size ≠ gs := Blk.ne hbx hM2.seenB (by decide)
    have hx3 : (Value.slice O 0 0).ownBlock ≠ some W1.heap.size := by rw [ownBlock_len O 0 0 s.out.length oc]; exact own_ne_blk hM2.own hbx (by decide)
    have HX1 := Lib.hid hx1
    have HX2 := Lib.hid hx2
    have HX3 := Lib.hid hx3
    have b3 := hM2.blk.cell 3
    have b6 := hM2.blk.cell 6
    have b7 := hM2.blk.cell 7
    have f7 := hM2.blk.frozen 7
    simp only [List.getElem?_toArray, List.getElem?_cons_zero, List.getElem?_cons_succ] at b3 b6 b7
    clear hbx hM2 hx1 hx2 hx3 e0 c4 c5 c6 c7 c8 HM1 HK1
    generalize W1.alloc (.cells #[.int .i64 y.op, .int .i64 y.out, .int .i64 y.arg, .slice y.A y.n y.c, .int .i64 y.at_] 60) = W2 at d0 d1 d2 d4 HM2 HBX HK2 b3 b6 b7 f7 ⊢
    generalize W1.heap.size = gx at d0 d1 d2 d4 HBX HX1 HX2 HX3 ⊢
    rw [HOP.out] at d0
    go_wp2_with fail
    first | (refine bodyPost_ret (results_none (by rfl) _ _ _) (by rfl) ?_) | (refine bodyPost_end (results_none (by rfl) _ _ _) (by rfl) ?_)
    exact ⟨rfl, ⟨s.seen.set q true, s.out, s.mt⟩, O, oc, HM2.out, HK2.out, .step y HY.out HS.out HND.out (by rw [HMK.out]; simpa [succs, HOP.out] using Runs.nil _)⟩

theorem come_any {w : World} {A : Option Addr} {n c : Nat} {st cp at_ : Int} {lng : Bool} {g gs : Nat} {L : List MI} (hA : PgIn w A n c L) (hL : Leads L) (hn : n ≤ 10000) : ∀ N, ComeN w A n c st cp at_ lng g gs L N := by
  intro N
  induction N with
  | zero => intro s W O oc p h; omega
  | succ N ih =>
    intro s W O oc p hN hM hl ho h0 h1
    obtain ⟨q, rfl⟩ : ∃ q : Nat, p = (q : Int) := ⟨p.toNat, by omega⟩
    have hq : q < n := by omega
    have hs : s.seen[q]? = some (s.seen[q]'(by omega)) := List.getElem?_eq_getElem _
    cases hb : s.seen[q]'(by omega) with
    | true => rw [hb] at hs; exact come_seen hM hq hs
    | false =>
      rw [hb] at hs
      cases hd : s.done lng with
      | true =>
        have h2 : s.mt = true ∧ lng = false := by simpa [CS.done] using hd
        exact come_done hM hq hs h2.1 h2.2
      | false =>
        have hC : ComeN w A n c st cp at_ lng g gs L s.left := fun s' W' O' oc' p' h' => ih s' W' O' oc' p' (by omega)
        have hy : L[q]? = some (L[q]'(by have := hA.len; omega)) := List.getElem?_eq_getElem _
        obtain ⟨_, _, k1, k6⟩ := hL _ (List.mem_of_getElem? hy)
        generalize L[q]'(by have := hA.len; omega) = y at hy k1 k6
        rcases (show y.op = 1 ∨ y.op = 2 ∨ y.op = 3 ∨ y.op = 4 ∨ y.op = 5 ∨ y.op = 6 by omega) with h | h | h | h | h | h
        · exact come_op1 hC hM hA hL hn hl ho hq hs hd hy h
        · exact come_op2 hC hM hA hL hn hl ho hq hs hd hy h
        · exact come_op3 hC hM hA hL hn hl ho hq hs hd hy h
        · exact come_op4 hC hM hA hL hn hl ho hq hs hd hy h
        · cases hT : AtT at_ y with
          | true => exact come_op5t hC hM hA hL hn hl ho hq hs hd hy h hT
          | false => exact come_op5f hC hM hA hL hn hl ho hq hs hd hy h hT
        · exact come_op6 hC hM hA hL hn hl ho hq hs hd hy h
end Go.Proofs.Ytbhcgjahlfpjoaa
