/- Threads: Find of a program. -/
import Derived.Test.YtbhcgjahlfpjoaaDoorTf1
import Derived.Test.YtbhcgjahlfpjoaaDoorTg2
import Derived.Test.YtbhcgjahlfpjoaaDoorHeldU
import Derived.Deep.LoopGhost
namespace Go.Proofs.YtbhcgjahlfpjoaaDoor
open Go.RowKit

set_option maxRecDepth 100000 in
set_option maxHeartbeats 8000000 in
theorem find_far {w0 W : World} {g : Nat} {D1 D2 : LD} {PA : Option Addr} {n pcap : Nat} {st cp : Int} {L : List MI} (hM : Ma w0.heap.size W g D1 D2) (hP : PgK w0 g PA n pcap L) (hs : ∀ x ∈ L, x.n ≤ 1000000) (hb0 : Bel w0.heap.size g w0 W) (hyes : PgOK n st cp L)
    {lo U gi : Nat} {l : List (Int × Nat)} {sx : List UInt8} (hI : SymsAt W lo U gi l sx) (hU : U ≤ W.heap.size) (_hl : 1 ≤ l.length ∧ l.length ≤ 100000) (frm : Int) (hfar : frm < 0 ∨ (l.length : Int) - 1 < frm) (lng : Bool) :
    Calls Tryd.prog 11 #[.pointer (some ⟨g, 0, none⟩), .agg #[.slice PA n pcap, .int .i64 st, .int .i64 cp], .pointer (some ⟨gi, 0, none⟩), .int .i64 frm, .bool true, .bool lng] W (FindB w0.heap.size g D1 D2 W none 0) := by
  have hb1 : Below W.heap.size W (W.alloc (.cells #[.slice PA n pcap, .int .i64 st, .int .i64 cp] 28)) := (Below.refl _ _).alloc (Nat.le_refl _) _
  have hcon := pcheck_any (hP _ (hb0.on hb0.size hb1)) (st := st) (cp := cp) hs
  have HB1 := Lib.hid hb1
  have HM := Lib.hid hM
  have HYES := Lib.hid hyes
  have HI := Lib.hid hI
  have HU := Lib.hid hU
  clear hb1 hM hP hs hb0 hyes hI hU
  go_enter Tryd.func11, Tryd.ntmps11
  go_wp2_with fail
  with_reducible refine hcon.mono ?_
  rintro e w2 ⟨v, rfl, hv, hb2⟩
  obtain ⟨rfl⟩ : v = 0 := by
    rcases hv with ⟨h, _⟩ | ⟨_, h⟩
    · exact h
    · exact absurd HYES.out h
  have HB2 := Lib.hid (HB1.out.onto hb2)
  clear hcon hb2 hv
  by_cases h0 : frm < 0
  · have HFIN : Hid (FindB w0.heap.size g D1 D2 W none 0 (.returned (.tuple #[.slice none 0 0, .bool false, .int .i64 0])) w2) := Lib.hid (by
      obtain ⟨cells, n1, X1, n2, X2, s, hm⟩ := HM.out
      exact ⟨_, D1, D2, rfl, rfl, ⟨cells, n1, X1, n2, X2, s, hm.on HB2.out⟩, (Went.refl _ _ _ _).below HB2.out⟩)
    have d0 : decide (frm < 0) = true := decide_eq_true h0
    clear hfar
    go_wp2_with fail
    go_ret3
    exact HFIN.out
  · have hgt : (l.length : Int) - 1 < frm := by omega
    have d0 : decide (frm < 0) = false := decide_eq_false h0
    have d1 : decide ((l.length : Int) - 1 < frm) = true := decide_eq_true hgt
    have HFIN : Hid (FindB w0.heap.size g D1 D2 W none 0 (.returned (.tuple #[.slice none 0 0, .bool false, .int .i64 0])) w2) := Lib.hid (by
      obtain ⟨cells, n1, X1, n2, X2, s, hm⟩ := HM.out
      exact ⟨_, D1, D2, rfl, rfl, ⟨cells, n1, X1, n2, X2, s, hm.on HB2.out⟩, (Went.refl _ _ _ _).below HB2.out⟩)
    have hlen := len_any (HI.out.same (Same.of_below HB2.out HU.out))
    clear hfar
    go_wp2_with (go_at_call 17; with_reducible refine hlen.mono ?_; rintro e w' ⟨rfl, rfl⟩)
    go_ret3
    exact HFIN.out

set_option maxRecDepth 100000 in
set_option maxHeartbeats 16000000 in
theorem find_main {w0 W : World} {g : Nat} {D1 D2 : LD} {PA : Option Addr} {n pcap c : Nat} {st : Int} {L : List MI} (hM : Ma w0.heap.size W g D1 D2) (hP : PgK w0 g PA n pcap L) (hs : ∀ x ∈ L, x.n ≤ 1000000) (hb0 : Bel w0.heap.size g w0 W) (hyes : PgOK n st (c : Int) L)
    {lo U gi : Nat} {l : List (Int × Nat)} {sx : List UInt8} (hI : SymsAt W lo U gi l sx) (hU : U ≤ W.heap.size) (hZ : ∀ k, lo ≤ k → k < U → ¬ Ft g D1 D2 k) (hl : 1 ≤ l.length ∧ l.length ≤ 100000) (frm : Int) (anch lng : Bool) (hnear : anch = true → ¬ (frm < 0 ∨ (l.length : Int) - 1 < frm)) (hfi : frm ≤ 9223372036854775807) (k : Nat) (hk : k = findN L (TP l) (RP l) st (fit0 c) lng anch frm.toNat (l.length - frm.toNat) frm.toNat [] none) (hkb : k ≤ 4611686018427387904) :
    Calls Tryd.prog 11 #[.pointer (some ⟨g, 0, none⟩), .agg #[.slice PA n pcap, .int .i64 st, .int .i64 (c : Int)], .pointer (some ⟨gi, 0, none⟩), .int .i64 frm, .bool anch, .bool lng] W
      (FindB w0.heap.size g D1 D2 W (findP L (TP l) (RP l) st (fit0 c) lng anch frm.toNat (l.length - frm.toNat) frm.toNat [] none) k) := by
  have hb1 : Below W.heap.size W (W.alloc (.cells #[.slice PA n pcap, .int .i64 st, .int .i64 (c : Int)] 28)) := (Below.refl _ _).alloc (Nat.le_refl _) _
  have hbx1 := Blk.new W 28 #[.slice PA n pcap, .int .i64 st, .int .i64 (c : Int)]
  have hcon := pcheck_any (hP _ (hb0.on hb0.size hb1)) (st := st) (cp := (c : Int)) hs
  obtain ⟨fr, hfr⟩ : ∃ fr : Nat, frm.toNat = fr := ⟨_, rfl⟩
  have hmx : (if frm < 0 then 0 else frm) = (fr : Int) := by split <;> omega
  have hmx2 : max frm 0 = (fr : Int) := by omega
  rw [hfr] at hk ⊢
  obtain ⟨cells0, n1, X1, n2, X2, s0, hm⟩ := hM
  have HB1 := Lib.hid hb1
  have HBX1 := Lib.hid hbx1
  have HM := Lib.hid hm
  have HYES := Lib.hid hyes
  have HI := Lib.hid hI
  have HU := Lib.hid hU
  have HZ := Lib.hid hZ
  have HL := Lib.hid hl
  have HP := Lib.hid hP
  have HS := Lib.hid hs
  have HB0 := Lib.hid hb0
  have HFR := Lib.hid hfr
  have HK := Lib.hid hk
  have HKB := Lib.hid hkb
  have HMX := Lib.hid hmx
  have HMX2 := Lib.hid hmx2
  clear hb1 hbx1 hm hP hs hb0 hyes hI hU hZ hl hfr hk hkb hmx hmx2
  go_enter Tryd.func11, Tryd.ntmps11
  go_wp2_with fail
  with_reducible refine hcon.mono ?_
  rintro e w2 ⟨v, rfl, hv, hb2⟩
  obtain ⟨rfl⟩ : v = 0 := by
    rcases hv with ⟨h, _⟩ | ⟨_, h⟩
    · exact h
    · exact absurd HYES.out h
  have HB2 := Lib.hid (HB1.out.onto hb2)
  have HBX2 := Lib.hid (HBX1.out.below hb2 HBX1.out.lt)
  clear hcon hb2 hv
  have HM2 := Lib.hid (HM.out.on HB2.out)
  go_upto_region 3 with fail
  go_cut [43] from 278 to 277 (fun s43 wx => s43 = .bool false ∧ wx = w2)
  case first => as_aux_lemma =>
    have hlen := len_any (HI.out.same (Same.of_below HB2.out HU.out))
    cases anch with
    | true =>
      have d2 : ¬ frm < 0 := fun h => hnear rfl (.inl h)
      have d3 : ¬ (l.length : Int) - 1 < frm := fun h => hnear rfl (.inr h)
      have d0 : decide (frm < 0) = false := decide_eq_false d2
      have d1 : decide ((l.length : Int) - 1 < frm) = false := decide_eq_false d3
      go_wp2_with (go_at_call 17; with_reducible refine hlen.mono ?_; rintro e w' ⟨rfl, rfl⟩)
      go_meet
      case rel => exact ⟨rfl, rfl⟩
    | false =>
      go_wp2_with fail
      go_meet
      case rel => exact ⟨rfl, rfl⟩
  case rest =>
  obtain ⟨rfl, rfl⟩ := hcut
  have c6 := (HM2.out.l1.rows.box.cell 6).trans HM2.out.c6
  have f6 := HM2.out.l1.rows.box.frozen 6
  have hmx := HMX.out
  have hmx2 := HMX2.out
  clear hnear
  go_upto_region 8 with fail
  clear hmx hmx2 c6 f6
  have HM3 := Lib.hid ((HM2.out.setS 0).drew)
  have HW3 := Lib.hid ((((Went.refl g D1 D2 W).below HB2.out).setG 6 (.int .i64 0)).drew)
  have hgb : g ≠ W.heap.size := by have := HM.out.l1.rows.box.lt; omega
  have HBX3 := Lib.hid ((HBX2.out.far (p := ⟨g, 6, none⟩) (Ne.symm hgb) (.int .i64 0)).drew)
  have hr8 := HM3.out.reset1 (n' := n) (by have := HYES.out.2.1; omega)
  have hS := HBX3.out.cell 0
  simp only [List.getElem?_toArray, List.getElem?_cons_zero] at hS
  clear hgb HM2 HBX2 HB2 HBX1 HB1
  generalize W.heap.size = bp at HBX3 hS ⊢
  refine wp_region_U (S := fun w' => w'.cell? ⟨bp, 0, none⟩ = some (.slice PA n pcap)) (t := 99) (by kernel_rfl) ?_
  refine wpAnyU_pure (i := 0) (v := ?_) rfl (by kernel_rfl) (by kernel_rfl) (by kernel_rfl) (fun _ _ _ h => h) (by kernel_rfl) (Or.inl ⟨by rfl, ?_⟩) (Or.inr hS) ?_
  rotate_left
  · (intro w _; go_simp; try with_reducible rfl)
  try simp only [List.getElem_toArray, List.getElem_cons_zero, Act.put, List.setIfInBounds_toArray, List.set_cons_zero, List.set_cons_succ]
  refine wpAnyU_pure (i := 1) (v := ?_) rfl (by kernel_rfl) (by kernel_rfl) (by kernel_rfl) (fun _ _ _ h => h) (by kernel_rfl) (Or.inl ⟨by rfl, ?_⟩) (Or.inr hS) ?_
  rotate_left
  · (intro w _; go_simp; try with_reducible rfl)
  try simp only [List.getElem_toArray, List.getElem_cons_succ, List.getElem_cons_zero, Act.put, List.setIfInBounds_toArray, List.set_cons_zero, List.set_cons_succ]
  refine wpAnyU_pure (i := 2) (v := ?_) rfl (by kernel_rfl) (by kernel_rfl) (by kernel_rfl) (fun _ _ _ h => h) (by kernel_rfl) (Or.inl ⟨by rfl, ?_⟩) (Or.inr hS) ?_
  rotate_left
  · (intro w _; go_simp; try with_reducible rfl)
  try simp only [List.getElem_toArray, List.getElem_cons_succ, List.getElem_cons_zero, Act.put, List.setIfInBounds_toArray, List.set_cons_zero, List.set_cons_succ]
  refine wpAnyU_pure (i := 3) (v := ?_) rfl (by kernel_rfl) (by kernel_rfl) (by kernel_rfl) (fun _ _ _ h => h) (by kernel_rfl) (Or.inl ⟨by rfl, ?_⟩) (Or.inr hS) ?_
  rotate_left
  · (intro w _; go_simp; try with_reducible rfl)
  try simp only [List.getElem_toArray, List.getElem_cons_succ, List.getElem_cons_zero, Act.put, List.setIfInBounds_toArray, List.set_cons_zero, List.set_cons_succ]
  refine wpAnyU_pure (i := 4) (v := ?_) rfl (by kernel_rfl) (by kernel_rfl) (by kernel_rfl) (fun _ _ _ h => h) (by kernel_rfl) (Or.inl ⟨by rfl, ?_⟩) (Or.inr hS) ?_
  rotate_left
  · (intro w _; go_simp; try with_reducible rfl)
  try simp only [List.getElem_toArray, List.getElem_cons_succ, List.getElem_cons_zero, Act.put, List.setIfInBounds_toArray, List.set_cons_zero, List.set_cons_succ]
  refine wpAnyU_take (i := 5) (v := ?_) rfl (by kernel_rfl) (by kernel_rfl) (by kernel_rfl) (fun _ _ _ h => h) (by kernel_rfl) (Or.inl ⟨by rfl, ?_⟩) hS ?_
  rotate_left
  · (intro w hS; have s1 := hS; go_simp; try with_reducible rfl)
  try simp only [List.getElem_toArray, List.getElem_cons_succ, List.getElem_cons_zero, Act.put, List.setIfInBounds_toArray, List.set_cons_zero, List.set_cons_succ]
  refine wpAnyU_take (i := 6) (v := ?_) rfl (by kernel_rfl) (by kernel_rfl) (by kernel_rfl) (fun _ _ _ h => h) (by kernel_rfl) (Or.inl ⟨by rfl, ?_⟩) hS ?_
  rotate_left
  · (intro w hS; have s1 := hS; go_simp; try with_reducible rfl)
  try simp only [List.getElem_toArray, List.getElem_cons_succ, List.getElem_cons_zero, Act.put, List.setIfInBounds_toArray, List.set_cons_zero, List.set_cons_succ]
  refine wpAnyU_one (i := 7) (by kernel_rfl) rfl (fun K hK => ?_)
  go_simp
  with_reducible refine hr8.mono ?_
  rintro e V1 ⟨rfl, cells1, E1, hm4, hw4⟩
  have HM4 := Lib.hid hm4
  have HW4 := Lib.hid (HW3.out.trans hw4)
  have HBX4 := Lib.hid (hw4.1.blk HBX3.out (HM3.out.ne HBX3.out (by decide) (by decide) (by decide)))
  clear hm4 hw4 hr8
  go_simp
  replace hS := HBX4.out.cell 0
  refine hK _ _ (Or.inr hS) ?_
  clear hK K
  try simp only [Array.getInternal_eq_getElem, List.getElem_toArray, List.getElem_cons_succ, List.getElem_cons_zero, Act.put, List.setIfInBounds_toArray, List.set_cons_zero, List.set_cons_succ]
  refine wpAnyU_done (by kernel_rfl) ?_ _
  clear hS HM3 HBX3 HW3
  have HST0 : Hid (St w0 W g bp D1 D2 #[.slice PA n pcap, .int .i64 st, .int .i64 (c : Int)] n c L E1 [] n2 X2 none 0 (.slice none 0 0) V1) := Lib.hid ⟨cells1, D2, HM4.out, HW4.out, rfl, HBX4.out, Full.nil, (fun _ h => by cases h), (fun _ h => by cases h), Int.le_refl _⟩
  have HC : Hid (2 ≤ c ∧ c ≤ 4002 ∧ Leads3 L ∧ CapsAt L ∧ 0 ≤ st ∧ st < (n : Int) ∧ L.length = n) := Lib.hid (by
    obtain ⟨q1, q2, q3, q4, q5, q6, _, q8⟩ := HYES.out
    have hlen := HP.out.len
    refine ⟨by omega, by omega, fun x hx => ?_, fun x hx h4 => ?_, q3, q4, hlen⟩
    · have h := q8 x hx
      rw [hlen]
      unfold InstOK at h
      refine ⟨fun h3 => ?_, fun h3 => ?_⟩ <;> omega
    · have h := q8 x hx
      unfold InstOK at h
      omega)
  generalize hRv : findP L (TP l) (RP l) st (fit0 c) lng anch fr (l.length - fr) fr [] none = Rv
  have HRV := Lib.hid hRv
  clear hRv
  go_wp2_with fail
  go_loopg [16, 15] (l.length + 1 - fr) (fun q pl bw wr => ∃ (j : Nat) (b : Option (List Int)) (X : List Th) (F1 : LD) (m2 : Nat) (Y2 : List Th) (s : Int) (bv : Value), q = l.length + 1 - j ∧ pl = .int .i64 (j : Int) ∧ bv = bw ∧ Hid (St w0 W g bp D1 D2 #[.slice PA n pcap, .int .i64 st, .int .i64 (c : Int)] n c L F1 X m2 Y2 b s bv wr ∧ findP L (TP l) (RP l) st (fit0 c) lng anch fr (l.length - j) j X b = Rv ∧ s + (findN L (TP l) (RP l) st (fit0 c) lng anch fr (l.length - j) j X b : Int) = (k : Int) ∧ (j : Int) ≤ 9223372036854775807))
  case atStart => exact ⟨fr, none, [], E1, n2, X2, 0, _, rfl, rfl, rfl, Lib.hid ⟨HST0.out, HRV.out, by rw [HK.out]; omega, by have := HFR.out; omega⟩⟩
  case round =>
    obtain ⟨j, b, X, F1, m2, Y2, s, bv, hgk, rfl, rfl, HR⟩ := hrel
    have HG := Lib.hid hgk
    clear hgk
    have hlen := len_any (HI.out.same (HR.out.1.same HZ.out HU.out))
    by_cases hlt : j < l.length
    · have hi : (j : Int) ≤ (l.length : Int) - 1 := by omega
      have hat := at_any (HI.out.same (HR.out.1.same HZ.out HU.out)) (j : Int) (by omega)
      obtain ⟨kk, hkk⟩ : ∃ kk, l.length - j = kk + 1 := ⟨l.length - j - 1, by omega⟩
      have hP1 := HR.out.2.1
      have hN1 := HR.out.2.2.1
      rw [hkk, findP_go rfl] at hP1
      rw [hkk, findN_go rfl, Int.natCast_add, ← Int.add_assoc] at hN1
      have HPP := Lib.hid hP1
      have HNN := Lib.hid hN1
      have HKK := Lib.hid hkk
      clear hP1 hN1 hkk
      go_wp2_with (go_at_call 17; with_reducible refine hlen.mono ?_; rintro e w' ⟨rfl, rfl⟩)
      go_step3
      go_upto_region 12 with fail
      go_cut [17] from 278 to 277 (fun s17 wx => s17 = .int .i64 (atAt l (j : Int)) ∧ ∃ d1, wx = wr.drewN d1)
      case first => as_aux_lemma =>
        go_wp2_with (go_at_call 25; with_reducible refine hat.mono ?_; rintro e w' ⟨rfl, d1, rfl⟩)
        go_meet
        case rel => exact ⟨rfl, d1, rfl⟩
      case rest =>
      obtain ⟨rfl, d1, rfl⟩ := hcut
      clear hlen hat
      go_upto_region 13 with fail
      have HST1 := Lib.hid (HR.out.1.drewN d1)
      generalize wr.drewN d1 = V0 at HST1 ⊢
      go_cut [79] from 278 to 277 (fun s79 wx => s79 = .bool (newB b anch j fr) ∧ wx = V0)
      case first => as_aux_lemma =>
        have qe : ∀ (w : World) (a : Option Addr) (n c n' c' : Nat), (binOp .eql 35 (.slice a n c) (.slice none n' c')).run Tryd.prog w = .ok (.bool a.isNone) w := fun w a n c n' c' => Lib.run_eql_slice_nil w _ _ a n c n' c' Tryd.underlying35
        rcases HST1.out.best with ⟨rfl, rfl⟩ | ⟨f, bb, bo, cc, rfl, _, rfl, _⟩
        · cases anch with
          | true =>
            by_cases hjf : j = fr
            · have hji : ((j : Int) == (fr : Int)) = true := by rw [hjf]; simp
              have HJF : Hid (newB none true j fr = true) := Lib.hid (by simp [newB, hjf])
              clear hjf
              go_wp2_with fail
              go_meet
              case rel => exact ⟨by rw [HJF.out], rfl⟩
            · have hji : ((j : Int) == (fr : Int)) = false := by rw [beq_eq_false_iff_ne]; omega
              have HJF : Hid (newB none true j fr = false) := Lib.hid (by simp [newB, hjf])
              clear hjf
              go_wp2_with fail
              go_meet
              case rel => exact ⟨by rw [HJF.out], rfl⟩
          | false =>
            go_wp2_with fail
            go_meet
            case rel => exact ⟨rfl, rfl⟩
        · go_wp2_with fail
          go_meet
          case rel => exact ⟨rfl, rfl⟩
      case rest =>
      obtain ⟨rfl, rfl⟩ := hcut
      go_upto_if 79 with fail
      go_cut [] from 79 to 79 (fun wx => ∃ F1', Hid (St w0 W g bp D1 D2 #[.slice PA n pcap, .int .i64 st, .int .i64 (c : Int)] n c L F1' (if newB b anch j fr = true then closeL L (TP l) j X st (fit0 c j) else X) m2 Y2 b (s + ((if newB b anch j fr = true then (fit0 c j).length + comeS L (TP l j) (j : Int) (L.length + 1) X st (fit0 c j) else 0 : Nat) : Int)) bv wx))
      case first => as_aux_lemma =>
        cases hnew : newB b anch j fr with
        | false =>
          have HNEW := Lib.hid hnew
          go_wp2_with fail
          go_meet
          case rel => exact ⟨F1, Lib.hid (by rw [if_neg (by rw [HNEW.out]; simp), if_neg (by rw [HNEW.out]; simp)]; simpa using HST1.out)⟩
        | true =>
          have HNEW := Lib.hid hnew
          obtain ⟨cells1', G2, hm1, hw1, hbi1, hbx1, hfu1, hfl1, hbl1, hs1⟩ := HST1.out
          have HM1 := Lib.hid hm1
          have HW1 := Lib.hid hw1
          have HBI1 := Lib.hid hbi1
          have HBX1 := Lib.hid hbx1
          have HFU1 := Lib.hid (And.intro hfu1 (And.intro hfl1 (And.intro hbl1 hs1)))
          have hrep := repeatI_any (w := wc.alloc (.cells #[.int .i64 (-1)] 3)) (gx := wc.heap.size) (c := c) (Blk.new wc _ _) (by have := HC.out.1; omega) (by have := HC.out.2.1; omega)
          have e2 := (HST1.out.below ((Below.refl _ _).alloc (Nat.le_refl _) (.cells #[.int .i64 (-1)] 3))).bx.2.2
          clear hm1 hw1 hbi1 hbx1 hfu1 hfl1 hbl1 hs1
          go_upto_region 15 with (go_at_call 26; with_reducible refine hrep.mono ?_; rintro e V2 ⟨gr, rfl, hgr, hgs, hb2⟩)
          clear hrep e2
          have hgs2 : wc.heap.size ≤ gr := by simp at hgs; omega
          have r1 : V2.cell? ⟨gr, 0, none⟩ = some (.int .i64 (-1)) := by
            have := HC.out.1
            rw [hgr.cell]
            simp only [repL, List.getElem?_toArray]
            rw [List.getElem?_append_left (by simp; omega), List.getElem?_replicate, if_pos (by omega)]
          have r2 := hgr.frozen 0
          have hb3 : Below wc.heap.size wc (V2.setCell ⟨gr, 0, none⟩ (.int .i64 (j : Int))) := (((Below.refl _ _).alloc (Nat.le_refl _) _).trans (hb2.mono (by simp))).setCell hgs2 _
          have hlf : (fit0 (c : Int) j).length = c := by rw [fit0_length, Int.toNat_natCast]
          have HF3 : Hid (FitIn (V2.setCell ⟨gr, 0, none⟩ (.int .i64 (j : Int))) (Ft g F1 G2) (.slice (some ⟨gr, 0, none⟩) c c) (fit0 c j)) := Lib.hid (by
            have := FitIn.of_blk (Z := Ft g F1 G2) (hgr.set 0 (.int .i64 (j : Int))) (fit0_cells c j (by have := HC.out.1; omega)) (by rw [hlf]; have := HC.out.2.1; omega) (fun hz => by have := (HM1.out.ftlt gr hz).2; omega)
            rwa [hlf] at this)
          have HM3 := Lib.hid (HM1.out.on hb3)
          have HW3 := Lib.hid (HW1.out.below hb3)
          have HBI3 := Lib.hid (HBI1.out.went ((Went.refl _ _ _ _).below hb3))
          have HBX3 := Lib.hid (HBX1.out.below hb3 HBX1.out.lt)
          have HLF := Lib.hid hlf
          clear hgs hgs2 hb2 hb3 hgr HM1 HW1 HBI1 HBX1 hlf
          have hc0 : (0 : Int) < (c : Int) := by have := HC.out.1; omega
          have hc1 : 0 < c := by have := HC.out.1; omega
          go_upto_region 16 with fail
          clear r1 r2
          generalize V2.setCell ⟨gr, 0, none⟩ (.int .i64 (j : Int)) = V3 at HF3 HM3 HW3 HBI3 HBX3 ⊢
          have c6 := (HM3.out.l1.rows.box.cell 6).trans HM3.out.c6
          have f6 := HM3.out.l1.rows.box.frozen 6
          have hnn := HNN.out
          rw [if_pos HNEW.out, HLF.out] at hnn
          simp only [Int.natCast_add] at hnn
          have hkb := HKB.out
          have hs0 := HFU1.out.2.2.2
          have hsw : IntKind.i64.wrap (s + (c : Int)) = s + (c : Int) := IntWalk.i64_in _ (by omega)
          have hcb : s + (c : Int) + comeS L (AtB (atAt l (j : Int))) (j : Int) (L.length + 1) X st (fit0 c j) ≤ 4611686018427387904 := by
            show s + (c : Int) + comeS L (TP l j) (j : Int) (L.length + 1) X st (fit0 c j) ≤ 4611686018427387904
            omega
          have HCB := Lib.hid hcb
          clear hnn hkb hs0 hcb
          go_upto_region 17 with fail
          clear c6 f6 hsw
          have HM5 := Lib.hid ((HM3.out.setS (s + (c : Int))).drew)
          have hwx : Went g F1 G2 F1 G2 V3 (V3.setCell ⟨g, 6, none⟩ (.int .i64 (s + (c : Int)))).drew := ((Went.refl g F1 G2 V3).setG 6 _).drew
          have HW5 := Lib.hid (HW3.out.trans hwx)
          have HBI5 := Lib.hid (HBI3.out.went hwx)
          have HF5 := Lib.hid (hwx.fit HF3.out)
          have HBX5 := Lib.hid ((HBX3.out.far (p := ⟨g, 6, none⟩) (Blk.ne HBX3.out HM3.out.l1.rows.box (by decide)) (.int .i64 (s + (c : Int)))).drew)
          have hc5 := HM5.out.come1 (place := (j : Int)) (at_ := atAt l (j : Int)) (pc := st) (F := some ⟨gr, 0, none⟩) (fc := c) (fit := fit0 c j) HP.out (HB0.out.trans (HM.out.bel HW5.out)) HYES.out (by rw [HLF.out]; exact HF5.out) (by rw [HLF.out]) HC.out.2.2.2.2.1 HC.out.2.2.2.2.2.1 HFU1.out.1 (by have := HFU1.out.2.2.2; omega) HCB.out
          rw [HLF.out] at hc5
          have hS : (V3.setCell ⟨g, 6, none⟩ (.int .i64 (s + (c : Int)))).drew.cell? ⟨bp, 0, none⟩ = some (.slice PA n pcap) ∧ (V3.setCell ⟨g, 6, none⟩ (.int .i64 (s + (c : Int)))).drew.cell? ⟨bp, 1, none⟩ = some (.int .i64 st) ∧ (V3.setCell ⟨g, 6, none⟩ (.int .i64 (s + (c : Int)))).drew.cell? ⟨bp, 2, none⟩ = some (.int .i64 (c : Int)) := ⟨HBX5.out.cell 0, HBX5.out.cell 1, HBX5.out.cell 2⟩
          clear hwx HM3 HW3 HBI3 HF3 HBX3
          refine wp_region_U (S := fun w' => w'.cell? ⟨bp, 0, none⟩ = some (.slice PA n pcap) ∧ w'.cell? ⟨bp, 1, none⟩ = some (.int .i64 st) ∧ w'.cell? ⟨bp, 2, none⟩ = some (.int .i64 (c : Int))) (t := 99) (by kernel_rfl) ?_
          generalize (V3.setCell ⟨g, 6, none⟩ (.int .i64 (s + (c : Int)))).drew = V5 at HM5 HW5 HBI5 HF5 HBX5 hc5 hS ⊢
          refine wpAnyU_pure (i := 0) (v := ?_) rfl (by kernel_rfl) (by kernel_rfl) (by kernel_rfl) (fun _ _ _ h => h) (by kernel_rfl) (Or.inl ⟨by rfl, ?_⟩) (Or.inr hS) ?_
          rotate_left
          · (intro w _; go_simp; try with_reducible rfl)
          try simp only [List.getElem_toArray, List.getElem_cons_zero, Act.put, List.setIfInBounds_toArray, List.set_cons_zero, List.set_cons_succ]
          refine wpAnyU_pure (i := 1) (v := ?_) rfl (by kernel_rfl) (by kernel_rfl) (by kernel_rfl) (fun _ _ _ h => h) (by kernel_rfl) (Or.inl ⟨by rfl, ?_⟩) (Or.inr hS) ?_
          rotate_left
          · (intro w _; go_simp; try with_reducible rfl)
          try simp only [List.getElem_toArray, List.getElem_cons_succ, List.getElem_cons_zero, Act.put, List.setIfInBounds_toArray, List.set_cons_zero, List.set_cons_succ]
          refine wpAnyU_pure (i := 2) (v := ?_) rfl (by kernel_rfl) (by kernel_rfl) (by kernel_rfl) (fun _ _ _ h => h) (by kernel_rfl) (Or.inl ⟨by rfl, ?_⟩) (Or.inr hS) ?_
          rotate_left
          · (intro w _; go_simp; try with_reducible rfl)
          try simp only [List.getElem_toArray, List.getElem_cons_succ, List.getElem_cons_zero, Act.put, List.setIfInBounds_toArray, List.set_cons_zero, List.set_cons_succ]
          refine wpAnyU_pure (i := 3) (v := ?_) rfl (by kernel_rfl) (by kernel_rfl) (by kernel_rfl) (fun _ _ _ h => h) (by kernel_rfl) (Or.inl ⟨by rfl, ?_⟩) (Or.inr hS) ?_
          rotate_left
          · (intro w _; go_simp; try with_reducible rfl)
          try simp only [List.getElem_toArray, List.getElem_cons_succ, List.getElem_cons_zero, Act.put, List.setIfInBounds_toArray, List.set_cons_zero, List.set_cons_succ]
          refine wpAnyU_take (i := 4) (v := ?_) rfl (by kernel_rfl) (by kernel_rfl) (by kernel_rfl) (fun _ _ _ h => h) (by kernel_rfl) (Or.inl ⟨by rfl, ?_⟩) hS ?_
          rotate_left
          · (intro w hS; obtain ⟨s1, s2, s3⟩ := hS; go_simp; try with_reducible rfl)
          try simp only [List.getElem_toArray, List.getElem_cons_succ, List.getElem_cons_zero, Act.put, List.setIfInBounds_toArray, List.set_cons_zero, List.set_cons_succ]
          refine wpAnyU_pure (i := 5) (v := ?_) rfl (by kernel_rfl) (by kernel_rfl) (by kernel_rfl) (fun _ _ _ h => h) (by kernel_rfl) (Or.inl ⟨by rfl, ?_⟩) (Or.inr hS) ?_
          rotate_left
          · (intro w _; go_simp; try with_reducible rfl)
          try simp only [List.getElem_toArray, List.getElem_cons_succ, List.getElem_cons_zero, Act.put, List.setIfInBounds_toArray, List.set_cons_zero, List.set_cons_succ]
          refine wpAnyU_pure (i := 6) (v := ?_) rfl (by kernel_rfl) (by kernel_rfl) (by kernel_rfl) (fun _ _ _ h => h) (by kernel_rfl) (Or.inl ⟨by rfl, ?_⟩) (Or.inr hS) ?_
          rotate_left
          · (intro w _; go_simp; try with_reducible rfl)
          try simp only [List.getElem_toArray, List.getElem_cons_succ, List.getElem_cons_zero, Act.put, List.setIfInBounds_toArray, List.set_cons_zero, List.set_cons_succ]
          refine wpAnyU_pure (i := 7) (v := ?_) rfl (by kernel_rfl) (by kernel_rfl) (by kernel_rfl) (fun _ _ _ h => h) (by kernel_rfl) (Or.inl ⟨by rfl, ?_⟩) (Or.inr hS) ?_
          rotate_left
          · (intro w _; go_simp; try with_reducible rfl)
          try simp only [List.getElem_toArray, List.getElem_cons_succ, List.getElem_cons_zero, Act.put, List.setIfInBounds_toArray, List.set_cons_zero, List.set_cons_succ]
          refine wpAnyU_take (i := 8) (v := ?_) rfl (by kernel_rfl) (by kernel_rfl) (by kernel_rfl) (fun _ _ _ h => h) (by kernel_rfl) (Or.inl ⟨by rfl, ?_⟩) hS ?_
          rotate_left
          · (intro w hS; obtain ⟨s1, s2, s3⟩ := hS; go_simp; try with_reducible rfl)
          try simp only [List.getElem_toArray, List.getElem_cons_succ, List.getElem_cons_zero, Act.put, List.setIfInBounds_toArray, List.set_cons_zero, List.set_cons_succ]
          refine wpAnyU_pure (i := 9) (v := ?_) rfl (by kernel_rfl) (by kernel_rfl) (by kernel_rfl) (fun _ _ _ h => h) (by kernel_rfl) (Or.inl ⟨by rfl, ?_⟩) (Or.inr hS) ?_
          rotate_left
          · (intro w _; go_simp; try with_reducible rfl)
          try simp only [List.getElem_toArray, List.getElem_cons_succ, List.getElem_cons_zero, Act.put, List.setIfInBounds_toArray, List.set_cons_zero, List.set_cons_succ]
          refine wpAnyU_one (i := 10) (by kernel_rfl) rfl (fun K hK => ?_)
          go_simp
          with_reducible refine hc5.mono ?_
          rintro e V6 ⟨rfl, cells6, F6, hm6, hw6⟩
          have HM6 := Lib.hid hm6
          have HW6 := Lib.hid (HW5.out.trans hw6)
          have HBI6 := Lib.hid (HBI5.out.went hw6)
          have HBX6 := Lib.hid (hw6.1.blk HBX5.out (HM5.out.ne HBX5.out (by decide) (by decide) (by decide)))
          clear hm6 hw6 hc5
          go_simp
          replace hS := And.intro (HBX6.out.cell 0) (And.intro (HBX6.out.cell 1) (HBX6.out.cell 2))
          refine hK _ _ (Or.inr hS) ?_
          clear hK K
          try simp only [Array.getInternal_eq_getElem, List.getElem_toArray, List.getElem_cons_succ, List.getElem_cons_zero, Act.put, List.setIfInBounds_toArray, List.set_cons_zero, List.set_cons_succ]
          refine wpAnyU_done (by kernel_rfl) ?_ _
          clear hS
          go_wp2_with fail
          go_meet
          case rel =>
            refine ⟨F6, Lib.hid ?_⟩
            rw [if_pos HNEW.out, if_pos HNEW.out, HLF.out]
            refine ⟨cells6, G2, ?_, HW6.out, HBI6.out, HBX6.out, ?_, ?_, HFU1.out.2.2.1, ?_⟩
            · rw [show s + ((c + comeS L (TP l j) (j : Int) (L.length + 1) X st (fit0 c j) : Nat) : Int) = s + (c : Int) + (comeS L (TP l j) (j : Int) (L.length + 1) X st (fit0 c j) : Int) by simp only [Int.natCast_add]; omega]
              exact HM6.out
            · exact comeL_full HC.out.2.2.1 _ _ _ _ HC.out.2.2.2.2.1 (by rw [HC.out.2.2.2.2.2.2]; exact HC.out.2.2.2.2.2.1) HFU1.out.1
            · exact closeL_fit HC.out.2.2.2.1 st HFU1.out.2.1 HLF.out
            · have := HFU1.out.2.2.2; omega
      case rest =>
      obtain ⟨F2, HST2⟩ := hcut
      generalize hX1 : (if newB b anch j fr = true then closeL L (TP l) j X st (fit0 c j) else X) = X1 at HST2 HPP HNN
      generalize hs1 : s + ((if newB b anch j fr = true then (fit0 c j).length + comeS L (TP l j) (j : Int) (L.length + 1) X st (fit0 c j) else 0 : Nat) : Int) = s1 at HST2 HNN
      clear hX1 hs1 HST1 HR
      go_upto_region 18 with fail
      go_cut [121] from 278 to 277 (fun s121 wx => s121 = .bool (stopB X1 b anch) ∧ wx = wc)
      case first => as_aux_lemma =>
        have c1 := HST2.out.now.1
        rcases HST2.out.best with ⟨rfl, rfl⟩ | ⟨f, bb, bo, cc, rfl, _, rfl, _⟩ <;> rcases X1 with _ | ⟨t, X1'⟩ <;> cases anch <;> (simp only [List.length_nil, List.length_cons] at c1; go_wp2_with fail; go_meet; case rel => exact ⟨by simp [stopB], rfl⟩)
      case rest =>
      obtain ⟨rfl, rfl⟩ := hcut
      cases hstop : stopB X1 b anch with
      | true =>
        have hb := HPP.out
        have hk := HNN.out
        rw [if_pos hstop] at hb hk
        rw [Int.natCast_zero, Int.add_zero] at hk
        have HFIN := Lib.hid (fun d => HST2.out.fin hk d)
        obtain ⟨c6, _⟩ := HST2.out.c6
        have HBB := Lib.hid hb
        have hbest := HST2.out.best
        clear hk hb
        rcases hbest with ⟨rfl, rfl⟩ | ⟨f, bb, bo, cc, rfl, _, rfl, _⟩
        · go_upto_region 42 with fail
          dsimp only [Exit.noGoto, Exit.inBlock, Exit.then]
          rw [if_neg (by decide), if_pos rfl]
          go_upto_region 42 with fail
          go_quiet (fail)
          go_wp2_with fail
          go_ret3
          rw [HRV.out, ← HBB.out]
          exact HFIN.out _
        · go_upto_region 42 with fail
          dsimp only [Exit.noGoto, Exit.inBlock, Exit.then]
          rw [if_neg (by decide), if_pos rfl]
          go_upto_region 42 with fail
          go_quiet (fail)
          go_wp2_with fail
          go_ret3
          rw [HRV.out, ← HBB.out]
          exact HFIN.out _
      | false =>
        have HSTOP := Lib.hid hstop
        have hlen2 := len_any (HI.out.same (HST2.out.same HZ.out HU.out))
        go_upto_if 127 with (go_at_call 17; with_reducible refine hlen2.mono ?_; rintro e w' ⟨rfl, rfl⟩)
        go_cut [19] from 127 to 127 (fun s19 wx => s19 = .int .i64 (nxt l j) ∧ ∃ d2, wx = wc.drewN d2)
        case first => as_aux_lemma =>
          by_cases hn : (j : Int) < (l.length : Int) - 1
          · have hat := at_any (HI.out.same (HST2.out.same HZ.out HU.out)) ((j : Int) + 1) (by omega)
            have hjw : IntKind.i64.wrap ((j : Int) + 1) = (j : Int) + 1 := IntWalk.i64_in _ (by have := HL.out.2; omega)
            have HN2 := Lib.hid hn
            go_wp2_with (go_at_call 25; with_reducible refine hat.mono ?_; rintro e w' ⟨rfl, d2, rfl⟩)
            go_meet
            case rel => exact ⟨by rw [nxt, if_pos (by have := HN2.out; omega)], d2, rfl⟩
          · have HN2 := Lib.hid hn
            go_wp2_with fail
            go_meet
            case rel => exact ⟨by rw [nxt, if_neg (by have := HN2.out; omega)], 0, rfl⟩
        case rest =>
        obtain ⟨rfl, d2, rfl⟩ := hcut
        clear hlen2
        have HST3 := Lib.hid (HST2.out.drewN d2)
        generalize wc.drewN d2 = V3 at HST3 ⊢
        go_upto_region 22 with fail
        obtain ⟨cells3, G3, hm3, hw3, hbi3, hbx3, hfu3, hfl3, hbl3, hs3⟩ := HST3.out.drew
        have HM3 := Lib.hid hm3
        have HW3 := Lib.hid hw3
        have HBI3 := Lib.hid hbi3
        have HBX3 := Lib.hid hbx3
        have HFU3 := Lib.hid (And.intro hfu3 (And.intro hfl3 (And.intro hbl3 hs3)))
        have hr9 := HM3.out.symm.reset1 (n' := n) (by have := HYES.out.2.1; omega)
        have hS := HBX3.out.cell 0
        simp only [List.getElem?_toArray, List.getElem?_cons_zero] at hS
        clear hm3 hw3 hbi3 hbx3 hfu3 hfl3 hbl3 hs3 HST3 HST2
        refine wp_region_U (S := fun w' => w'.cell? ⟨bp, 0, none⟩ = some (.slice PA n pcap)) (t := 99) (by kernel_rfl) ?_
        refine wpAnyU_pure (i := 0) (v := ?_) rfl (by kernel_rfl) (by kernel_rfl) (by kernel_rfl) (fun _ _ _ h => h) (by kernel_rfl) (Or.inl ⟨by rfl, ?_⟩) (Or.inr hS) ?_
        rotate_left
        · (intro w _; go_simp; try with_reducible rfl)
        try simp only [List.getElem_toArray, List.getElem_cons_zero, Act.put, List.setIfInBounds_toArray, List.set_cons_zero, List.set_cons_succ]
        refine wpAnyU_pure (i := 1) (v := ?_) rfl (by kernel_rfl) (by kernel_rfl) (by kernel_rfl) (fun _ _ _ h => h) (by kernel_rfl) (Or.inl ⟨by rfl, ?_⟩) (Or.inr hS) ?_
        rotate_left
        · (intro w _; go_simp; try with_reducible rfl)
        try simp only [List.getElem_toArray, List.getElem_cons_succ, List.getElem_cons_zero, Act.put, List.setIfInBounds_toArray, List.set_cons_zero, List.set_cons_succ]
        refine wpAnyU_pure (i := 2) (v := ?_) rfl (by kernel_rfl) (by kernel_rfl) (by kernel_rfl) (fun _ _ _ h => h) (by kernel_rfl) (Or.inl ⟨by rfl, ?_⟩) (Or.inr hS) ?_
        rotate_left
        · (intro w _; go_simp; try with_reducible rfl)
        try simp only [List.getElem_toArray, List.getElem_cons_succ, List.getElem_cons_zero, Act.put, List.setIfInBounds_toArray, List.set_cons_zero, List.set_cons_succ]
        refine wpAnyU_pure (i := 3) (v := ?_) rfl (by kernel_rfl) (by kernel_rfl) (by kernel_rfl) (fun _ _ _ h => h) (by kernel_rfl) (Or.inl ⟨by rfl, ?_⟩) (Or.inr hS) ?_
        rotate_left
        · (intro w _; go_simp; try with_reducible rfl)
        try simp only [List.getElem_toArray, List.getElem_cons_succ, List.getElem_cons_zero, Act.put, List.setIfInBounds_toArray, List.set_cons_zero, List.set_cons_succ]
        refine wpAnyU_pure (i := 4) (v := ?_) rfl (by kernel_rfl) (by kernel_rfl) (by kernel_rfl) (fun _ _ _ h => h) (by kernel_rfl) (Or.inl ⟨by rfl, ?_⟩) (Or.inr hS) ?_
        rotate_left
        · (intro w _; go_simp; try with_reducible rfl)
        try simp only [List.getElem_toArray, List.getElem_cons_succ, List.getElem_cons_zero, Act.put, List.setIfInBounds_toArray, List.set_cons_zero, List.set_cons_succ]
        refine wpAnyU_take (i := 5) (v := ?_) rfl (by kernel_rfl) (by kernel_rfl) (by kernel_rfl) (fun _ _ _ h => h) (by kernel_rfl) (Or.inl ⟨by rfl, ?_⟩) hS ?_
        rotate_left
        · (intro w hS; have s1 := hS; go_simp; try with_reducible rfl)
        try simp only [List.getElem_toArray, List.getElem_cons_succ, List.getElem_cons_zero, Act.put, List.setIfInBounds_toArray, List.set_cons_zero, List.set_cons_succ]
        refine wpAnyU_take (i := 6) (v := ?_) rfl (by kernel_rfl) (by kernel_rfl) (by kernel_rfl) (fun _ _ _ h => h) (by kernel_rfl) (Or.inl ⟨by rfl, ?_⟩) hS ?_
        rotate_left
        · (intro w hS; have s1 := hS; go_simp; try with_reducible rfl)
        try simp only [List.getElem_toArray, List.getElem_cons_succ, List.getElem_cons_zero, Act.put, List.setIfInBounds_toArray, List.set_cons_zero, List.set_cons_succ]
        refine wpAnyU_one (i := 7) (by kernel_rfl) rfl (fun K hK => ?_)
        go_simp
        with_reducible refine hr9.mono ?_
        rintro e V4 ⟨rfl, cells4, F4, hm4, hw4⟩
        have HM4b := Lib.hid hm4.symm
        have HW4b := Lib.hid (HW3.out.trans hw4.symm)
        have HBI4 := Lib.hid (HBI3.out.went hw4.symm)
        have HBX4b := Lib.hid (hw4.1.blk HBX3.out (HM3.out.symm.ne HBX3.out (by decide) (by decide) (by decide)))
        clear hm4 hw4 hr9
        go_simp
        replace hS := HBX4b.out.cell 0
        refine hK _ _ (Or.inr hS) ?_
        clear hK K
        try simp only [Array.getInternal_eq_getElem, List.getElem_toArray, List.getElem_cons_succ, List.getElem_cons_zero, Act.put, List.setIfInBounds_toArray, List.set_cons_zero, List.set_cons_succ]
        refine wpAnyU_done (by kernel_rfl) ?_ _
        clear hS
        have HST4 : Hid (St w0 W g bp D1 D2 #[.slice PA n pcap, .int .i64 st, .int .i64 (c : Int)] n c L F2 X1 n [] b s1 bv V4) := Lib.hid ⟨cells4, F4, HM4b.out, HW4b.out, HBI4.out, HBX4b.out, HFU3.out⟩
        clear HM3 HW3 HBI3 HBX3 HFU3 HM4b HW4b HBI4 HBX4b
        go_upto_region 23 with fail
        go_step3
        go_step
        go_step
        go_step
        go_cut [15] from 147 to 147 (fun s15 wx => ∃ (b' : Option (List Int)) (Y' : List Th) (s' : Int), Hid (St w0 W g bp D1 D2 #[.slice PA n pcap, .int .i64 st, .int .i64 (c : Int)] n c L F2 X1 n Y' b' s' s15 wx ∧ scanP L (TP l) (RP l) lng j X1 b [] = (b', Y') ∧ s' = s1 + (scanN L (TP l) (RP l) lng j X1 b [] : Int) ∧ Full L Y' ∧ FitL c Y'))
        case first => as_aux_lemma =>
          have c1 := HST4.out.now.1
          have hlx : (X1.length : Int) ≤ 10000 := by
            obtain ⟨_, _, _, _, _, _, hfu, _⟩ := HST4.out
            have := hfu.le; have := HC.out.2.2.2.2.2.2; have := HYES.out.2.1; omega
          have hsb : s1 + (scanN L (TP l) (RP l) lng j X1 b [] : Int) ≤ 4611686018427387904 := by
            have h1 := HNN.out
            rw [if_neg (by rw [HSTOP.out]; simp)] at h1
            have h2 := HKB.out
            simp only [Int.natCast_add] at h1
            omega
          have HSB := Lib.hid hsb
          have HLX := Lib.hid hlx
          clear hsb
          obtain ⟨fA, fna, fca, fN, fkc, fV, fvc, fqs, fvs⟩ := F2
          dsimp only at c1
          go_wp2_with fail
          clear c1
          go_loopg [147, 15] X1.length (fun q i bw wr => ∃ (p : Nat) (bq : Option (List Int)) (Y : List Th) (sq : Int) (bv' : Value), q = X1.length - p ∧ p ≤ X1.length ∧ i = .int .i64 (p : Int) ∧ bv' = bw ∧ Hid (St w0 W g bp D1 D2 #[.slice PA n pcap, .int .i64 st, .int .i64 (c : Int)] n c L ⟨fA, fna, fca, fN, fkc, fV, fvc, fqs, fvs⟩ X1 n Y bq sq bv' wr ∧ scanP L (TP l) (RP l) lng j (X1.drop p) bq Y = scanP L (TP l) (RP l) lng j X1 b [] ∧ sq + (scanN L (TP l) (RP l) lng j (X1.drop p) bq Y : Int) = s1 + (scanN L (TP l) (RP l) lng j X1 b [] : Int) ∧ Full L Y ∧ FitL c Y))
          case atStart => exact ⟨0, b, [], s1, bv, by omega, Nat.zero_le _, rfl, rfl, Lib.hid ⟨HST4.out, rfl, rfl, Full.nil, fun _ h => by cases h⟩⟩
          case round =>
            obtain ⟨p, bq, Y, sq, bv', hgk, hple, rfl, rfl, HQ⟩ := hrel
            have HG2 := Lib.hid hgk
            clear hgk
            by_cases hp : p < X1.length
            · have hpi : (p : Int) < (X1.length : Int) := by omega
              obtain ⟨cells5, G5, hm5, hw5, hbi5, hbx5, hfu5, hfl5, hbl5, hs5⟩ := HQ.out.1
              have HT := hm5.thread hfl5 (by have := HC.out.1; omega) hp
              have HM5 := Lib.hid hm5
              have HW5 := Lib.hid hw5
              have HBI5 := Lib.hid hbi5
              have HBX5 := Lib.hid hbx5
              have HFU5 := Lib.hid (And.intro hfu5 (And.intro hfl5 (And.intro hbl5 hs5)))
              obtain ⟨q, fit, bn, on, bw, ow, fb, fo, fcc, hxp, hqn, hfl, hN, hV, hcn, hcv, hfit⟩ := HT
              dsimp only at hN hV
              subst hN
              subst hV
              have HXP := Lib.hid hxp
              have HQN := Lib.hid hqn
              have HFL := Lib.hid hfl
              have HFI := Lib.hid hfit
              have k1 := hcn wr (Same.refl _ _ _)
              have k2 := HQ.out.1.now.2
              dsimp only at k2
              obtain ⟨c6, f6⟩ := HQ.out.1.c6
              have hsw : IntKind.i64.wrap (sq + 1) = sq + 1 := IntWalk.i64_in _ (by have h1 := HQ.out.2.2.1; have h2 := HSB.out; have h3 := HFU5.out.2.2.2; omega)
              have hlx := HLX.out
              clear hm5 hw5 hbi5 hbx5 hfu5 hfl5 hbl5 hs5 hxp hqn hfl hcn hfit
              go_upto_region 28 with fail
              clear k1 k2 hcv c6 f6 hsw
              have hwx : Went g ⟨fA, fna, fca, some ⟨bn, on, none⟩, fkc, some ⟨bw, ow, none⟩, fvc, fqs, fvs⟩ G5 ⟨fA, fna, fca, some ⟨bn, on, none⟩, fkc, some ⟨bw, ow, none⟩, fvc, fqs, fvs⟩ G5 wr (wr.setCell ⟨g, 6, none⟩ (.int .i64 (sq + 1))) := (Went.refl _ _ _ wr).setG 6 _
              have HM6 := Lib.hid (HM5.out.setS (sq + 1))
              have HW6 := Lib.hid (HW5.out.trans hwx)
              have HBI6 := Lib.hid (HBI5.out.went hwx)
              have HFI6 := Lib.hid (hwx.fit HFI.out)
              have HBX6 := Lib.hid (HBX5.out.far (p := ⟨g, 6, none⟩) (Blk.ne HBX5.out HM5.out.l1.rows.box (by decide)) (.int .i64 (sq + 1)))
              have HST6 : Hid (St w0 W g bp D1 D2 #[.slice PA n pcap, .int .i64 st, .int .i64 (c : Int)] n c L ⟨fA, fna, fca, some ⟨bn, on, none⟩, fkc, some ⟨bw, ow, none⟩, fvc, fqs, fvs⟩ X1 n Y bq (sq + 1) bv' (wr.setCell ⟨g, 6, none⟩ (.int .i64 (sq + 1)))) := Lib.hid ⟨_, G5, HM6.out, HW6.out, HBI6.out, HBX6.out, HFU5.out.1, HFU5.out.2.1, HFU5.out.2.2.1, by have := HFU5.out.2.2.2; omega⟩
              have HSQ := Lib.hid HFU5.out.2.2.2
              clear hwx HM5 HW5 HBI5 HBX5 HFI HFU5
              generalize cells5.setIfInBounds 6 (.int .i64 (sq + 1)) = cells6 at HM6
              generalize wr.setCell ⟨g, 6, none⟩ (.int .i64 (sq + 1)) = V6 at HM6 HW6 HBI6 HFI6 HBX6 HST6 ⊢
              go_cut [178] from 278 to 277 (fun s178 wx => s178 = .bool (lateB bq fit) ∧ ∃ d, wx = V6.drewN d)
              case first => as_aux_lemma =>
                have k3 := HFI6.out.cell (i := 0) (by rw [HFL.out]; have := HC.out.1; omega)
                have hc0 : (0 : Int) < (c : Int) := by have := HC.out.1; omega
                have hc1 : 0 < c := by have := HC.out.1; omega
                rcases HST6.out.best with ⟨hbn, rfl⟩ | ⟨f, bb, bo, cc, hbn, hfc, rfl, hbc⟩
                · have HL1 : Hid (lateB bq fit = false) := Lib.hid (by rw [hbn]; rfl)
                  clear hbn
                  go_quiet (fail)
                  go_wp2_with fail
                  go_meet
                  case rel => exact ⟨by rw [HL1.out], _, rfl⟩
                · have k4 := hbc 0 _ (show f[0]? = some (f[0]?.getD 0) by rw [List.getElem?_eq_getElem (by omega)]; rfl)
                  rw [← beg_eq] at k3 k4
                  rw [Nat.add_zero] at k3 k4
                  by_cases hlt : beg f < beg fit
                  · have hd : decide (beg f < beg fit) = true := decide_eq_true hlt
                    have HL1 : Hid (lateB bq fit = true) := Lib.hid (by rw [hbn]; exact hd)
                    clear hbn hbc hfc
                    go_quiet (fail)
                    go_wp2_with fail
                    go_meet
                    case rel => exact ⟨by rw [HL1.out], _, rfl⟩
                  · have hd : decide (beg f < beg fit) = false := decide_eq_false hlt
                    have HL1 : Hid (lateB bq fit = false) := Lib.hid (by rw [hbn]; exact hd)
                    clear hbn hbc hfc
                    go_quiet (fail)
                    go_wp2_with fail
                    go_meet
                    case rel => exact ⟨by rw [HL1.out], _, rfl⟩
              case rest =>
              obtain ⟨rfl, d6, rfl⟩ := hcut
              have hDR := drop_cons HXP.out
              cases hlate : lateB bq fit with
              | true =>
                have HRES : Hid (St w0 W g bp D1 D2 #[.slice PA n pcap, .int .i64 st, .int .i64 (c : Int)] n c L ⟨fA, fna, fca, some ⟨bn, on, none⟩, fkc, some ⟨bw, ow, none⟩, fvc, fqs, fvs⟩ X1 n Y bq (sq + 1) bv' (V6.drewN d6) ∧ scanP L (TP l) (RP l) lng j X1 b [] = (bq, Y) ∧ sq + 1 = s1 + (scanN L (TP l) (RP l) lng j X1 b [] : Int) ∧ Full L Y ∧ FitL c Y) := Lib.hid (by
                  obtain ⟨h1, h2⟩ := scan_lateB (L := L) (T := TP l) (R := RP l) (lng := lng) (j := j) (X := X1.drop (p + 1)) (Y := Y) (b := bq) (t := ((q : Int), fit)) hlate
                  have h3 := HQ.out.2
                  rw [hDR, h1, h2] at h3
                  exact ⟨HST6.out.drewN d6, h3.1.symm, h3.2.1, h3.2.2⟩)
                clear hDR
                go_wp2_with fail
                go_meet
                case rel => exact ⟨bq, Y, sq + 1, HRES⟩
              | false =>
                have hb7 : Bel w0.heap.size g w0 (V6.drewN d6) := HB0.out.trans (HM.out.bel (HW6.out.drewN d6))
                obtain ⟨bA, oA, y, hPA, hbA, hy, hyI, hyc⟩ := (HP.out _ hb7).at HQN.out
                have HOP := Lib.hid (HYES.out.2.2.2.2.2.2.2 y (List.mem_of_getElem? hy))
                obtain ⟨c4, c5, c6, c7, c8⟩ := hyc _ (Same.refl _ _ _)
                have HB7 := Lib.hid hb7
                have HY := Lib.hid hy
                subst hPA
                have HLATE := Lib.hid hlate
                have HST7 := Lib.hid (HST6.out.drewN d6)
                have hwx : Went g ⟨fA, fna, fca, some ⟨bn, on, none⟩, fkc, some ⟨bw, ow, none⟩, fvc, fqs, fvs⟩ G5 ⟨fA, fna, fca, some ⟨bn, on, none⟩, fkc, some ⟨bw, ow, none⟩, fvc, fqs, fvs⟩ G5 V6 (V6.drewN d6) := (Went.refl _ _ _ _).drewN d6
                have HM7 := Lib.hid (HM6.out.drewN d6)
                have HW7 := Lib.hid (HW6.out.trans hwx)
                have HFI7 := Lib.hid (hwx.fit HFI6.out)
                have HBI7 := Lib.hid (HBI6.out.went hwx)
                have HBX7 := Lib.hid (HBX6.out.drewN d6)
                have HSET := Lib.hid hyI
                have e0 := HST7.out.bx.1
                have hqi : (q : Int) < (n : Int) := by have := HQN.out; omega
                have HPQ := Lib.hid hp
                clear hDR hyc hbA hyI hb7 hy hwx hlate HM6 HW6 HBI6 HFI6 HBX6 HST6
                generalize V6.drewN d6 = V7 at HST7 HM7 HW7 HFI7 HBI7 HBX7 HSET HB7 c4 c5 c6 c7 c8 e0 ⊢
                go_upto_region 31 with fail
                clear c4 c5 c6 c7 c8 e0 hqi
                have hba : Below V7.heap.size V7 (V7.alloc (.cells #[.int .i64 y.op, .int .i64 y.out, .int .i64 y.arg, .slice y.A y.n y.c, .int .i64 y.at_] 64)) := (Below.refl _ _).alloc (Nat.le_refl _) _
                have HBT := Lib.hid (Blk.new V7 64 #[.int .i64 y.op, .int .i64 y.out, .int .i64 y.arg, .slice y.A y.n y.c, .int .i64 y.at_])
                have HST8 := Lib.hid (HST7.out.below hba)
                have HM8 := Lib.hid (HM7.out.on hba)
                have HW8 := Lib.hid (HW7.out.below hba)
                have HFI8 := Lib.hid (((Went.refl g ⟨fA, fna, fca, some ⟨bn, on, none⟩, fkc, some ⟨bw, ow, none⟩, fvc, fqs, fvs⟩ G5 V7).below hba).fit HFI7.out)
                have HBI8 := Lib.hid (HBI7.out.went ((Went.refl g ⟨fA, fna, fca, some ⟨bn, on, none⟩, fkc, some ⟨bw, ow, none⟩, fvc, fqs, fvs⟩ G5 V7).below hba))
                have HBX8 := Lib.hid (HBX7.out.below hba HBX7.out.lt)
                have HB8 := Lib.hid (HB7.out.on HB7.out.size hba)
                have HSET8 := Lib.hid (HSET.out.below hba)
                clear hba HST7 HM7 HW7 HFI7 HB7 HSET HBI7 HBX7
                generalize V7.alloc (.cells #[.int .i64 y.op, .int .i64 y.out, .int .i64 y.arg, .slice y.A y.n y.c, .int .i64 y.at_] 64) = V8 at HBT HST8 HM8 HW8 HFI8 HBI8 HBX8 HB8 HSET8 ⊢
                generalize V7.heap.size = bt at HBT ⊢
                by_cases hop : y.op = 1
                · have k1 : (y.op == 1) = true := by rw [hop]; rfl
                  have HISM : Hid (isM L ((q : Int), fit) = true) := Lib.hid (by rw [isM_eq HY.out]; exact k1)
                  clear hop
                  go_upto_region 32 with fail
                  go_cut [209] from 278 to 277 (fun s209 wx => s209 = .bool (upB bq fit lng j) ∧ ∃ d, wx = V8.drewN d)
                  case first => as_aux_lemma =>
                    have qe : ∀ (w : World) (a : Option Addr) (n c n' c' : Nat), (binOp .eql 35 (.slice a n c) (.slice none n' c')).run Tryd.prog w = .ok (.bool a.isNone) w := fun w a n c n' c' => Lib.run_eql_slice_nil w _ _ a n c n' c' Tryd.underlying35
                    have k3 := HFI8.out.cell (i := 0) (by rw [HFL.out]; have := HC.out.1; omega)
                    have hc0 : (0 : Int) < (c : Int) := by have := HC.out.1; omega
                    have hc1 : 0 < c := by have := HC.out.1; omega
                    have hc2 : (1 : Int) < (c : Int) := by have := HC.out.1; omega
                    have hc3 : 1 < c := by have := HC.out.1; omega
                    rcases HST8.out.best with ⟨hbn, rfl⟩ | ⟨f, bb, bo, cc, hbn, hfc, rfl, hbc⟩
                    · have HL1 : Hid (upB bq fit lng j = true) := Lib.hid (by rw [hbn]; rfl)
                      clear hbn
                      go_quiet (fail)
                      go_wp2_with fail
                      go_meet
                      case rel => exact ⟨by rw [HL1.out], _, rfl⟩
                    · have k4 := hbc 0 _ (show f[0]? = some (f[0]?.getD 0) by rw [List.getElem?_eq_getElem (by omega)]; rfl)
                      have k5 := hbc 1 _ (show f[1]? = some (f[1]?.getD 0) by rw [List.getElem?_eq_getElem (by omega)]; rfl)
                      rw [← beg_eq] at k3 k4
                      rw [Nat.add_zero] at k3 k4
                      have HUP : Hid (upB bq fit lng j = (decide (beg fit < beg f) || !lng || decide (f[1]?.getD 0 < (j : Int)))) := Lib.hid (by rw [hbn]; rfl)
                      generalize f[1]?.getD 0 = f1 at k5 HUP
                      clear hbn hbc hfc
                      by_cases hlt : beg fit < beg f
                      · have hd : decide (beg fit < beg f) = true := decide_eq_true hlt
                        have HD : Hid (upB bq fit lng j = true) := Lib.hid (by rw [HUP.out, hd]; simp)
                        go_quiet (fail)
                        go_wp2_with fail
                        go_meet
                        case rel => exact ⟨by rw [HD.out], _, rfl⟩
                      · have hd : decide (beg fit < beg f) = false := decide_eq_false hlt
                        cases lng with
                        | false =>
                          have HD : Hid (upB bq fit false j = true) := Lib.hid (by rw [HUP.out, hd]; simp)
                          go_quiet (fail)
                          go_wp2_with fail
                          go_meet
                          case rel => exact ⟨by rw [HD.out], _, rfl⟩
                        | true =>
                          by_cases hlt2 : f1 < (j : Int)
                          · have hd2 : decide (f1 < (j : Int)) = true := decide_eq_true hlt2
                            have HD : Hid (upB bq fit true j = true) := Lib.hid (by rw [HUP.out, hd, hd2]; simp)
                            go_quiet (fail)
                            go_wp2_with fail
                            go_meet
                            case rel => exact ⟨by rw [HD.out], _, rfl⟩
                          · have hd2 : decide (f1 < (j : Int)) = false := decide_eq_false hlt2
                            have HD : Hid (upB bq fit true j = false) := Lib.hid (by rw [HUP.out, hd, hd2]; simp)
                            go_quiet (fail)
                            go_wp2_with fail
                            go_meet
                            case rel => exact ⟨by rw [HD.out], _, rfl⟩
                  case rest =>
                  obtain ⟨rfl, d8, rfl⟩ := hcut
                  have hwx : Went g ⟨fA, fna, fca, some ⟨bn, on, none⟩, fkc, some ⟨bw, ow, none⟩, fvc, fqs, fvs⟩ G5 ⟨fA, fna, fca, some ⟨bn, on, none⟩, fkc, some ⟨bw, ow, none⟩, fvc, fqs, fvs⟩ G5 V8 (V8.drewN d8) := (Went.refl _ _ _ _).drewN d8
                  have HST9 := Lib.hid (HST8.out.drewN d8)
                  have HM9 := Lib.hid (HM8.out.drewN d8)
                  have HW9 := Lib.hid (HW8.out.trans hwx)
                  have HFI9 := Lib.hid (hwx.fit HFI8.out)
                  clear hwx HST8 HM8 HW8 HFI8
                  generalize V8.drewN d8 = V9 at HST9 HM9 HW9 HFI9 ⊢
                  go_upto_if 209 with fail
                  go_cut [15] from 209 to 209 (fun s15 wx => Hid (St w0 W g bp D1 D2 #[.slice (some ⟨bA, oA, none⟩) n pcap, .int .i64 st, .int .i64 (c : Int)] n c L ⟨fA, fna, fca, some ⟨bn, on, none⟩, fkc, some ⟨bw, ow, none⟩, fvc, fqs, fvs⟩ X1 n Y (if upB bq fit lng j = true then some (fit.set 1 (j : Int)) else bq) (sq + 1 + ((if upB bq fit lng j = true then c else 0 : Nat) : Int)) s15 wx))
                  case first => as_aux_lemma =>
                    cases hup : upB bq fit lng j with
                    | true =>
                      have HUPT := Lib.hid hup
                      have hcl := cloneI_any HFI9.out.il (by have := HC.out.2.1; omega)
                      obtain ⟨cells9, G9, hm9, hw9, hbi9, hbx9, hfu9, hfl9, hbl9, hs9⟩ := HST9.out
                      have HM9b := Lib.hid hm9
                      have HW9b := Lib.hid hw9
                      have HBX9 := Lib.hid hbx9
                      have HFU9 := Lib.hid (And.intro hfu9 (And.intro hfl9 hs9))
                      clear hm9 hw9 hbi9 hbx9 hfu9 hfl9 hbl9 hs9
                      go_upto_region 34 with (go_at_call 28; with_reducible refine hcl.mono ?_; rintro e V10 ⟨uB, uc, rfl, hown, hb9⟩)
                      clear hcl
                      have hc2 := HC.out.1
                      obtain ⟨gB, cap, hv, hbB, hltB⟩ := hown.form (by omega)
                      injection hv with hv _ hcc
                      subst hv
                      subst hcc
                      obtain ⟨cur, hcur, _, hcs, _, hnc, _⟩ := own_blk hown
                      have hupz : 1 < cur.size := by rw [hcs]; omega
                      have r1 : V10.cell? ⟨gB, 1, none⟩ = some cur[1] := by rw [hcur.cell]; exact Array.getElem?_eq_getElem hupz
                      have r2 := hcur.frozen 1
                      have hown2 := (hown.stored 1 (.int .i64 (j : Int))).1
                      rw [show (i64s fit).set 1 (.int .i64 (j : Int)) = i64s (fit.set 1 (j : Int)) by simp [i64s, List.map_set]] at hown2
                      have hb10 : Below V9.heap.size V9 (V10.setCell ⟨gB, 1, none⟩ (.int .i64 (j : Int))) := hb9.setCell hbB _
                      have HFB : Hid (BestIn W.heap.size (V10.setCell ⟨gB, 1, none⟩ (.int .i64 (j : Int))) (Ft g ⟨fA, fna, fca, some ⟨bn, on, none⟩, fkc, some ⟨bw, ow, none⟩, fvc, fqs, fvs⟩ G9) (.slice (some ⟨gB, 0, none⟩) c uc) (some (fit.set 1 (j : Int)))) := Lib.hid ⟨FitIn.of_own hown2 (by omega) fun k hk => (HM9b.out.ftlt k hk).2, by rw [List.length_set, HFL.out]; exact own_lower hown2 HW9b.out.1.size⟩
                      have HM10 := Lib.hid (HM9b.out.on hb10)
                      have HW10 := Lib.hid (HW9b.out.below hb10)
                      have HBX10 := Lib.hid (HBX9.out.below hb10 HBX9.out.lt)
                      have ic1 : (1 : Int) < (c : Int) := by omega
                      have ic2 : 1 < c := by omega
                      generalize cur[1] = cu at r1
                      clear hown hb9 hcur hcs hnc hupz hown2 hb10 hbB hltB hc2 HM9b HW9b HBX9 HST9 HM9 HW9
                      go_upto_region 35 with fail
                      clear r1 r2 ic1 ic2
                      generalize V10.setCell ⟨gB, 1, none⟩ (.int .i64 (j : Int)) = V11 at HFB HM10 HW10 HBX10 ⊢
                      have c6 := (HM10.out.l1.rows.box.cell 6).trans HM10.out.c6
                      have f6 := HM10.out.l1.rows.box.frozen 6
                      have hsw : IntKind.i64.wrap (sq + 1 + (c : Int)) = sq + 1 + (c : Int) := IntWalk.i64_in _ (by have h1 := HQ.out.2.2.1; have h2 := HSB.out; have h3 := HSQ.out; have h4 := HC.out.2.1; omega)
                      have hwx : Went g ⟨fA, fna, fca, some ⟨bn, on, none⟩, fkc, some ⟨bw, ow, none⟩, fvc, fqs, fvs⟩ G9 ⟨fA, fna, fca, some ⟨bn, on, none⟩, fkc, some ⟨bw, ow, none⟩, fvc, fqs, fvs⟩ G9 V11 (V11.setCell ⟨g, 6, none⟩ (.int .i64 (sq + 1 + (c : Int)))) := (Went.refl _ _ _ V11).setG 6 _
                      have HRS : Hid (St w0 W g bp D1 D2 #[.slice (some ⟨bA, oA, none⟩) n pcap, .int .i64 st, .int .i64 (c : Int)] n c L ⟨fA, fna, fca, some ⟨bn, on, none⟩, fkc, some ⟨bw, ow, none⟩, fvc, fqs, fvs⟩ X1 n Y (if upB bq fit lng j = true then some (fit.set 1 (j : Int)) else bq) (sq + 1 + ((if upB bq fit lng j = true then c else 0 : Nat) : Int)) (.slice (some ⟨gB, 0, none⟩) c uc) (V11.setCell ⟨g, 6, none⟩ (.int .i64 (sq + 1 + (c : Int))))) := Lib.hid (by
                        rw [if_pos HUPT.out, if_pos HUPT.out]
                        refine ⟨_, G9, HM10.out.setS _, HW10.out.trans hwx, HFB.out.went hwx, HBX10.out.far (p := ⟨g, 6, none⟩) (Blk.ne HBX10.out HM10.out.l1.rows.box (by decide)) _, HFU9.out.1, HFU9.out.2.1, fun f hf => ?_, by have := HSQ.out; omega⟩
                        injection hf with hf
                        rw [← hf, List.length_set]
                        exact HFL.out)
                      clear hwx
                      go_wp2_with fail
                      go_meet
                      case rel => exact HRS
                    | false =>
                      have HUPF := Lib.hid hup
                      have HRS : Hid (St w0 W g bp D1 D2 #[.slice (some ⟨bA, oA, none⟩) n pcap, .int .i64 st, .int .i64 (c : Int)] n c L ⟨fA, fna, fca, some ⟨bn, on, none⟩, fkc, some ⟨bw, ow, none⟩, fvc, fqs, fvs⟩ X1 n Y (if upB bq fit lng j = true then some (fit.set 1 (j : Int)) else bq) (sq + 1 + ((if upB bq fit lng j = true then c else 0 : Nat) : Int)) bv' V9) := Lib.hid (by
                        rw [if_neg (by rw [HUPF.out]; simp), if_neg (by rw [HUPF.out]; simp)]
                        simpa using HST9.out)
                      go_wp2_with fail
                      go_meet
                      case rel => exact HRS
                  case rest =>
                  generalize hb2 : (if upB bq fit lng j = true then some (fit.set 1 (j : Int)) else bq) = b2 at hcut
                  have hsm := scan_match (L := L) (T := TP l) (R := RP l) (lng := lng) (j := j) (X := X1.drop (p + 1)) (Y := Y) (b := bq) (t := ((q : Int), fit)) (b2 := b2) HLATE.out HISM.out hb2.symm
                  have h3 := HQ.out.2
                  rw [drop_cons HXP.out, hsm.1, hsm.2, HFL.out] at h3
                  have H3 := Lib.hid h3
                  have HCUT := Lib.hid hcut
                  clear hsm h3 hb2 hcut
                  cases lng with
                  | true =>
                    go_wp2_with fail
                    go_roundg (X1.length - (p + 1))
                    case measure => have := HG2.out; omega
                    case rel => exact ⟨p + 1, b2, Y, _, _, rfl, by omega, by have := HLX.out; go_num, rfl, Lib.hid (⟨HCUT.out.out, H3.out.1, by have h := H3.out.2.1; simp only [Int.natCast_add, Int.natCast_one, Bool.true_eq_false, if_false] at h; omega, H3.out.2.2⟩)⟩
                  | false =>
                    go_wp2_with fail
                    go_meet
                    case rel => exact ⟨b2, Y, _, Lib.hid ⟨HCUT.out.out, H3.out.1.symm, by have h := H3.out.2.1; simp only [Int.natCast_add, Int.natCast_one, if_true, Nat.add_zero] at h ⊢; omega, H3.out.2.2⟩⟩
                · have k1 : (y.op == 1) = false := by rw [beq_eq_false_iff_ne]; exact hop
                  have HISM : Hid (isM L ((q : Int), fit) = false) := Lib.hid (by rw [isM_eq HY.out]; exact k1)
                  clear hop
                  have hsr := scan_read (L := L) (T := TP l) (R := RP l) (lng := lng) (j := j) (X := X1.drop (p + 1)) (Y := Y) (b := bq) (t := ((q : Int), fit)) (x := y) HLATE.out HISM.out (by rw [Int.toNat_natCast]; exact HY.out)
                  have h3 := HQ.out.2
                  rw [drop_cons HXP.out, hsr.1, hsr.2] at h3
                  have H3 := Lib.hid h3
                  clear hsr h3
                  by_cases hop2 : y.op = 2
                  · have k2 : (y.op == 2) = true := by rw [hop2]; rfl
                    have HOP2 := Lib.hid hop2
                    clear hop2
                    have hlen3 := len_any (HI.out.same (HST8.out.same HZ.out HU.out))
                    go_upto_region 38 with fail
                    go_cut [243] from 278 to 277 (fun s243 wx => s243 = .bool (RP l j y) ∧ Hid (Below V8.heap.size V8 wx))
                    case first => as_aux_lemma =>
                      by_cases hn : (j : Int) < (l.length : Int) - 1
                      · have HRP : Hid (RP l j y = hasB y.set (runeAt l (j : Int))) := Lib.hid (by unfold RP; rw [decide_eq_true hn]; rfl)
                        have hdn : decide ((j : Int) < (l.length : Int) - 1) = true := decide_eq_true hn
                        have HLN : Hid (∀ V, Below V8.heap.size V8 V → SymsAt V lo U gi l sx) := Lib.hid fun V hV => HI.out.same ((HST8.out.below hV).same HZ.out HU.out)
                        have HBD : Hid (Below V8.heap.size V8 V8.drew) := Lib.hid (Below.refl _ _).drew
                        have hsetx : RgIn V8 y.A y.n y.c y.set := HSET8.out
                        have HSETX := Lib.hid hsetx
                        clear hsetx
                        have hS : V8.drew.cell? ⟨bt, 3, none⟩ = some (.slice y.A y.n y.c) := HBT.out.cell 3
                        refine wp_region_U (S := fun w' => w'.cell? ⟨bt, 3, none⟩ = some (.slice y.A y.n y.c)) (t := 99) (by kernel_rfl) ?_
                        refine wpAnyU_pure (i := 0) (v := ?_) rfl (by kernel_rfl) (by kernel_rfl) (by kernel_rfl) (fun _ _ _ h => h) (by kernel_rfl) (Or.inl ⟨by rfl, ?_⟩) (Or.inr hS) ?_
                        rotate_left
                        · (intro w _; go_simp; try with_reducible rfl)
                        try simp only [List.getElem_toArray, List.getElem_cons_zero, Act.put, List.setIfInBounds_toArray, List.set_cons_zero, List.set_cons_succ]
                        refine wpAnyU_pure (i := 1) (v := ?_) rfl (by kernel_rfl) (by kernel_rfl) (by kernel_rfl) (fun _ _ _ h => h) (by kernel_rfl) (Or.inl ⟨by rfl, ?_⟩) (Or.inr hS) ?_
                        rotate_left
                        · (intro w _; go_simp; try with_reducible rfl)
                        try simp only [List.getElem_toArray, List.getElem_cons_succ, List.getElem_cons_zero, Act.put, List.setIfInBounds_toArray, List.set_cons_zero, List.set_cons_succ]
                        refine wpAnyU_pure (i := 2) (v := ?_) rfl (by kernel_rfl) (by kernel_rfl) (by kernel_rfl) (fun _ _ _ h => h) (by kernel_rfl) (Or.inl ⟨by rfl, ?_⟩) (Or.inr hS) ?_
                        rotate_left
                        · (intro w _; go_simp; try with_reducible rfl)
                        try simp only [List.getElem_toArray, List.getElem_cons_succ, List.getElem_cons_zero, Act.put, List.setIfInBounds_toArray, List.set_cons_zero, List.set_cons_succ]
                        refine wpAnyU_pure (i := 3) (v := ?_) rfl (by kernel_rfl) (by kernel_rfl) (by kernel_rfl) (fun _ _ _ h => h) (by kernel_rfl) (Or.inl ⟨by rfl, ?_⟩) (Or.inr hS) ?_
                        rotate_left
                        · (intro w _; go_simp; try with_reducible rfl)
                        try simp only [List.getElem_toArray, List.getElem_cons_succ, List.getElem_cons_zero, Act.put, List.setIfInBounds_toArray, List.set_cons_zero, List.set_cons_succ]
                        refine wpAnyU_one (i := 4) (by kernel_rfl) rfl (fun K hK => ?_)
                        go_simp
                        with_reducible refine (len_any (HLN.out _ HBD.out)).mono ?_
                        rintro e w' ⟨rfl, rfl⟩
                        go_simp
                        replace hS := hS
                        refine hK _ _ (Or.inr hS) ?_
                        clear hK K
                        try simp only [Array.getInternal_eq_getElem, List.getElem_toArray, List.getElem_cons_succ, List.getElem_cons_zero, Act.put, List.setIfInBounds_toArray, List.set_cons_zero, List.set_cons_succ]
                        refine wpAnyU_pure (i := 5) (v := ?_) rfl (by kernel_rfl) (by kernel_rfl) (by kernel_rfl) (fun _ _ _ h => h) (by kernel_rfl) (Or.inl ⟨by rfl, ?_⟩) (Or.inr hS) ?_
                        rotate_left
                        · (intro w _; go_simp; try with_reducible rfl)
                        try simp only [List.getElem_toArray, List.getElem_cons_succ, List.getElem_cons_zero, Act.put, List.setIfInBounds_toArray, List.set_cons_zero, List.set_cons_succ]
                        refine wpAnyU_pure (i := 6) (v := ?_) rfl (by kernel_rfl) (by kernel_rfl) (by kernel_rfl) (fun _ _ _ h => h) (by kernel_rfl) (Or.inl ⟨by rfl, ?_⟩) (Or.inr hS) ?_
                        rotate_left
                        · (intro w _; go_simp; try with_reducible rfl)
                        try simp only [List.getElem_toArray, List.getElem_cons_succ, List.getElem_cons_zero, Act.put, List.setIfInBounds_toArray, List.set_cons_zero, List.set_cons_succ]
                        refine wpAnyU_pure (i := 7) (v := ?_) rfl (by kernel_rfl) (by kernel_rfl) (by kernel_rfl) (fun _ _ _ h => h) (by kernel_rfl) (Or.inl ⟨by rfl, ?_⟩) (Or.inr hS) ?_
                        rotate_left
                        · (intro w _; go_simp; try with_reducible rfl)
                        try simp only [List.getElem_toArray, List.getElem_cons_succ, List.getElem_cons_zero, Act.put, List.setIfInBounds_toArray, List.set_cons_zero, List.set_cons_succ]
                        refine wpAnyU_take (i := 8) (v := ?_) rfl (by kernel_rfl) (by kernel_rfl) (by kernel_rfl) (fun _ _ _ h => h) (by kernel_rfl) (Or.inl ⟨by rfl, ?_⟩) hS ?_
                        rotate_left
                        · (intro w hS; have s1 := hS; go_simp; try with_reducible rfl)
                        try simp only [List.getElem_toArray, List.getElem_cons_succ, List.getElem_cons_zero, Act.put, List.setIfInBounds_toArray, List.set_cons_zero, List.set_cons_succ]
                        refine wpAnyU_pure (i := 9) (v := ?_) rfl (by kernel_rfl) (by kernel_rfl) (by kernel_rfl) (fun _ _ _ h => h) (by kernel_rfl) (Or.inl ⟨by rfl, ?_⟩) (Or.inr hS) ?_
                        rotate_left
                        · (intro w _; go_simp; try with_reducible rfl)
                        try simp only [List.getElem_toArray, List.getElem_cons_succ, List.getElem_cons_zero, Act.put, List.setIfInBounds_toArray, List.set_cons_zero, List.set_cons_succ]
                        refine wpAnyU_pure (i := 10) (v := ?_) rfl (by kernel_rfl) (by kernel_rfl) (by kernel_rfl) (fun _ _ _ h => h) (by kernel_rfl) (Or.inl ⟨by rfl, ?_⟩) (Or.inr hS) ?_
                        rotate_left
                        · (intro w _; go_simp; try with_reducible rfl)
                        try simp only [List.getElem_toArray, List.getElem_cons_succ, List.getElem_cons_zero, Act.put, List.setIfInBounds_toArray, List.set_cons_zero, List.set_cons_succ]
                        refine wpAnyU_pure (i := 11) (v := ?_) rfl (by kernel_rfl) (by kernel_rfl) (by kernel_rfl) (fun _ _ _ h => h) (by kernel_rfl) (Or.inl ⟨by rfl, ?_⟩) (Or.inr hS) ?_
                        rotate_left
                        · (intro w _; go_simp; try with_reducible rfl)
                        try simp only [List.getElem_toArray, List.getElem_cons_succ, List.getElem_cons_zero, Act.put, List.setIfInBounds_toArray, List.set_cons_zero, List.set_cons_succ]
                        refine wpAnyU_pure (i := 12) (v := ?_) rfl (by kernel_rfl) (by kernel_rfl) (by kernel_rfl) (fun _ _ _ h => h) (by kernel_rfl) (Or.inl ⟨by rfl, ?_⟩) (Or.inr hS) ?_
                        rotate_left
                        · (intro w _; go_simp; try with_reducible rfl)
                        try simp only [List.getElem_toArray, List.getElem_cons_succ, List.getElem_cons_zero, Act.put, List.setIfInBounds_toArray, List.set_cons_zero, List.set_cons_succ]
                        refine wpAnyU_one (i := 13) (by kernel_rfl) rfl (fun K hK => ?_)
                        go_simp
                        with_reducible refine (rune_any (HLN.out _ HBD.out) (j : Int)).mono ?_
                        rintro e w' ⟨rfl, rfl⟩
                        go_simp
                        replace hS := hS
                        refine hK _ _ (Or.inr hS) ?_
                        clear hK K
                        try simp only [Array.getInternal_eq_getElem, List.getElem_toArray, List.getElem_cons_succ, List.getElem_cons_zero, Act.put, List.setIfInBounds_toArray, List.set_cons_zero, List.set_cons_succ]
                        refine wpAnyU_one (i := 14) (by kernel_rfl) rfl (fun K hK => ?_)
                        go_simp
                        with_reducible refine (has_any (HSETX.out.below HBD.out) (runeAt l (j : Int))).mono ?_
                        rintro e V9 ⟨rfl, hb9⟩
                        have HBE := Lib.hid (HBD.out.onto hb9)
                        go_simp
                        replace hS := ((HBT.out.below HBE.out HBT.out.lt).cell 3)
                        refine hK _ _ (Or.inr hS) ?_
                        clear hK K
                        try simp only [Array.getInternal_eq_getElem, List.getElem_toArray, List.getElem_cons_succ, List.getElem_cons_zero, Act.put, List.setIfInBounds_toArray, List.set_cons_zero, List.set_cons_succ]
                        refine wpAnyU_pure (i := 15) (v := ?_) rfl (by kernel_rfl) (by kernel_rfl) (by kernel_rfl) (fun _ _ _ h => h) (by kernel_rfl) (Or.inl ⟨by rfl, ?_⟩) (Or.inr hS) ?_
                        rotate_left
                        · (intro w _; go_simp; try with_reducible rfl)
                        try simp only [List.getElem_toArray, List.getElem_cons_succ, List.getElem_cons_zero, Act.put, List.setIfInBounds_toArray, List.set_cons_zero, List.set_cons_succ]
                        refine wpAnyU_done (by kernel_rfl) ?_ _
                        clear hS
                        go_wp2_with fail
                        go_meet
                        case rel => exact ⟨by rw [HRP.out], HBE⟩
                      · have HRP : Hid (RP l j y = false) := Lib.hid (by unfold RP; rw [decide_eq_false hn]; rfl)
                        have hdn : decide ((j : Int) < (l.length : Int) - 1) = false := decide_eq_false hn
                        have cL := fun d => (len_any ((HI.out.same (HST8.out.same HZ.out HU.out)).drewN d)).mono fun _ _ ⟨a, b⟩ => (⟨a, b.symm⟩ : _ ∧ _)
                        go_quiet ((go_at_call 17; exact Calls.quiet_of_same (cL _)))
                        go_wp2_with fail
                        go_meet
                        case rel => exact ⟨by rw [HRP.out], Lib.hid (Below.refl _ _).drewN⟩
                    case rest =>
                    obtain ⟨rfl, hbw⟩ := hcut
                    have HST9 := Lib.hid (HST8.out.below hbw.out)
                    have HM9 := Lib.hid (HM8.out.on hbw.out)
                    have hwx : Went g ⟨fA, fna, fca, some ⟨bn, on, none⟩, fkc, some ⟨bw, ow, none⟩, fvc, fqs, fvs⟩ G5 ⟨fA, fna, fca, some ⟨bn, on, none⟩, fkc, some ⟨bw, ow, none⟩, fvc, fqs, fvs⟩ G5 V8 wc := (Went.refl _ _ _ _).below hbw.out
                    have HW9 := Lib.hid (HW8.out.trans hwx)
                    have HFI9 := Lib.hid (hwx.fit HFI8.out)
                    have HBT9 := Lib.hid (HBT.out.below hbw.out HBT.out.lt)
                    have HBI9 := Lib.hid (HBI8.out.went hwx)
                    have HBX9 := Lib.hid (HBX8.out.below hbw.out HBX8.out.lt)
                    clear hbw hwx hlen3 HST8 HM8 HW8 HFI8 HBT HB8 HSET8
                    go_upto_if 243 with fail
                    cases hrp : RP l j y with
                    | true =>
                      have HRPT := Lib.hid hrp
                      have hn : (j : Int) < (l.length : Int) - 1 := by
                        unfold RP at hrp
                        simp only [Bool.and_eq_true, decide_eq_true_eq] at hrp
                        exact hrp.1
                      have hjw : IntKind.i64.wrap ((j : Int) + 1) = (j : Int) + 1 := IntWalk.i64_in _ (by have := HL.out.2; omega)
                      have hT : TP l (j + 1) = AtB (nxt l j) := by
                        funext x
                        unfold TP nxt
                        rw [if_pos hn]
                        rfl
                      have h := H3.out
                      rw [if_pos ⟨HOP2.out, HRPT.out⟩, if_pos ⟨HOP2.out, HRPT.out⟩] at h
                      unfold closeL at h
                      rw [hT, show ((j + 1 : Nat) : Int) = (j : Int) + 1 from rfl] at h
                      simp only [Int.natCast_add, Int.natCast_one, ← Int.add_assoc] at h
                      obtain ⟨o1, o2⟩ : 0 ≤ y.out ∧ y.out < (n : Int) := by
                        have h1 := HOP.out
                        have h2 := HOP2.out
                        unfold InstOK at h1
                        omega
                      have HFULLY := Lib.hid (comeL_full (Tj := AtB (nxt l j)) (place := (j : Int) + 1) HC.out.2.2.1 (L.length + 1) Y y.out fit o1 (by rw [HC.out.2.2.2.2.2.2]; exact o2) H3.out.2.2.1)
                      have HFITY : Hid (FitL c (comeL L (AtB (nxt l j)) ((j : Int) + 1) (L.length + 1) Y y.out fit)) := Lib.hid (by
                        have h2 := closeL_fit (T := TP l) (j := j + 1) HC.out.2.2.2.1 y.out H3.out.2.2.2 HFL.out
                        unfold closeL at h2
                        rw [hT] at h2
                        exact h2)
                      have hwd : Went g ⟨fA, fna, fca, some ⟨bn, on, none⟩, fkc, some ⟨bw, ow, none⟩, fvc, fqs, fvs⟩ G5 ⟨fA, fna, fca, some ⟨bn, on, none⟩, fkc, some ⟨bw, ow, none⟩, fvc, fqs, fvs⟩ G5 wc wc.drew := (Went.refl _ _ _ _).drew
                      have HM9d := Lib.hid (HM9.out.drew)
                      have HW9d := Lib.hid (HW9.out.trans hwd)
                      have HFI9d := Lib.hid (hwd.fit HFI9.out)
                      have HBI9d := Lib.hid (HBI9.out.went hwd)
                      have HBX9d := Lib.hid (HBX9.out.drew)
                      have HBT9d := Lib.hid (HBT9.out.drew)
                      have hc9 := HM9d.out.symm.come1 (place := (j : Int) + 1) (at_ := nxt l j) (pc := y.out) (F := some ⟨fb, fo, none⟩) (fc := fcc) (fit := fit) HP.out (HB0.out.trans (HM.out.bel HW9d.out)) HYES.out (by rw [HFL.out]; exact HFI9d.out.mono fun k hk => .inl hk.symm) (by rw [HFL.out]) o1 o2 H3.out.2.2.1 (by have := HSQ.out; omega) (by have h1 := h.2.1; have h2 := HSB.out; omega)
                      rw [HFL.out] at hc9
                      have HH := Lib.hid h
                      have hS : wc.drew.cell? ⟨bp, 0, none⟩ = some (.slice (some ⟨bA, oA, none⟩) n pcap) ∧ wc.drew.cell? ⟨bp, 1, none⟩ = some (.int .i64 st) ∧ wc.drew.cell? ⟨bp, 2, none⟩ = some (.int .i64 (c : Int)) ∧ wc.drew.cell? ⟨bt, 1, none⟩ = some (.int .i64 y.out) := ⟨HBX9d.out.cell 0, HBX9d.out.cell 1, HBX9d.out.cell 2, HBT9d.out.cell 1⟩
                      have HRST := Lib.hid HST9.out
                      clear h hT hn o1 o2 hwd hrp HST9 HM9 HW9 HFI9 HBI9 HBX9 HBT9
                      go_upto_region 39 with fail
                      refine wp_region_U (S := fun w' => w'.cell? ⟨bp, 0, none⟩ = some (.slice (some ⟨bA, oA, none⟩) n pcap) ∧ w'.cell? ⟨bp, 1, none⟩ = some (.int .i64 st) ∧ w'.cell? ⟨bp, 2, none⟩ = some (.int .i64 (c : Int)) ∧ w'.cell? ⟨bt, 1, none⟩ = some (.int .i64 y.out)) (t := 99) (by kernel_rfl) ?_
                      refine wpAnyU_pure (i := 0) (v := ?_) rfl (by kernel_rfl) (by kernel_rfl) (by kernel_rfl) (fun _ _ _ h => h) (by kernel_rfl) (Or.inl ⟨by rfl, ?_⟩) (Or.inr hS) ?_
                      rotate_left
                      · (intro w _; go_simp; try with_reducible rfl)
                      try simp only [List.getElem_toArray, List.getElem_cons_zero, Act.put, List.setIfInBounds_toArray, List.set_cons_zero, List.set_cons_succ]
                      refine wpAnyU_pure (i := 1) (v := ?_) rfl (by kernel_rfl) (by kernel_rfl) (by kernel_rfl) (fun _ _ _ h => h) (by kernel_rfl) (Or.inl ⟨by rfl, ?_⟩) (Or.inr hS) ?_
                      rotate_left
                      · (intro w _; go_simp; try with_reducible rfl)
                      try simp only [List.getElem_toArray, List.getElem_cons_succ, List.getElem_cons_zero, Act.put, List.setIfInBounds_toArray, List.set_cons_zero, List.set_cons_succ]
                      refine wpAnyU_pure (i := 2) (v := ?_) rfl (by kernel_rfl) (by kernel_rfl) (by kernel_rfl) (fun _ _ _ h => h) (by kernel_rfl) (Or.inl ⟨by rfl, ?_⟩) (Or.inr hS) ?_
                      rotate_left
                      · (intro w _; go_simp; try with_reducible rfl)
                      try simp only [List.getElem_toArray, List.getElem_cons_succ, List.getElem_cons_zero, Act.put, List.setIfInBounds_toArray, List.set_cons_zero, List.set_cons_succ]
                      refine wpAnyU_pure (i := 3) (v := ?_) rfl (by kernel_rfl) (by kernel_rfl) (by kernel_rfl) (fun _ _ _ h => h) (by kernel_rfl) (Or.inl ⟨by rfl, ?_⟩) (Or.inr hS) ?_
                      rotate_left
                      · (intro w _; go_simp; try with_reducible rfl)
                      try simp only [List.getElem_toArray, List.getElem_cons_succ, List.getElem_cons_zero, Act.put, List.setIfInBounds_toArray, List.set_cons_zero, List.set_cons_succ]
                      refine wpAnyU_take (i := 4) (v := ?_) rfl (by kernel_rfl) (by kernel_rfl) (by kernel_rfl) (fun _ _ _ h => h) (by kernel_rfl) (Or.inl ⟨by rfl, ?_⟩) hS ?_
                      rotate_left
                      · (intro w hS; obtain ⟨s1, s2, s3, s4⟩ := hS; go_simp; try with_reducible rfl)
                      try simp only [List.getElem_toArray, List.getElem_cons_succ, List.getElem_cons_zero, Act.put, List.setIfInBounds_toArray, List.set_cons_zero, List.set_cons_succ]
                      refine wpAnyU_pure (i := 5) (v := ?_) rfl (by kernel_rfl) (by kernel_rfl) (by kernel_rfl) (fun _ _ _ h => h) (by kernel_rfl) (Or.inl ⟨by rfl, ?_⟩) (Or.inr hS) ?_
                      rotate_left
                      · (intro w _; go_simp; try with_reducible rfl)
                      try simp only [List.getElem_toArray, List.getElem_cons_succ, List.getElem_cons_zero, Act.put, List.setIfInBounds_toArray, List.set_cons_zero, List.set_cons_succ]
                      refine wpAnyU_pure (i := 6) (v := ?_) rfl (by kernel_rfl) (by kernel_rfl) (by kernel_rfl) (fun _ _ _ h => h) (by kernel_rfl) (Or.inl ⟨by rfl, ?_⟩) (Or.inr hS) ?_
                      rotate_left
                      · (intro w _; go_simp; try with_reducible rfl)
                      try simp only [List.getElem_toArray, List.getElem_cons_succ, List.getElem_cons_zero, Act.put, List.setIfInBounds_toArray, List.set_cons_zero, List.set_cons_succ]
                      refine wpAnyU_pure (i := 7) (v := ?_) rfl (by kernel_rfl) (by kernel_rfl) (by kernel_rfl) (fun _ _ _ h => h) (by kernel_rfl) (Or.inl ⟨by rfl, ?_⟩) (Or.inr hS) ?_
                      rotate_left
                      · (intro w _; go_simp; try with_reducible rfl)
                      try simp only [List.getElem_toArray, List.getElem_cons_succ, List.getElem_cons_zero, Act.put, List.setIfInBounds_toArray, List.set_cons_zero, List.set_cons_succ]
                      refine wpAnyU_pure (i := 8) (v := ?_) rfl (by kernel_rfl) (by kernel_rfl) (by kernel_rfl) (fun _ _ _ h => h) (by kernel_rfl) (Or.inl ⟨by rfl, ?_⟩) (Or.inr hS) ?_
                      rotate_left
                      · (intro w _; go_simp; try with_reducible rfl)
                      try simp only [List.getElem_toArray, List.getElem_cons_succ, List.getElem_cons_zero, Act.put, List.setIfInBounds_toArray, List.set_cons_zero, List.set_cons_succ]
                      refine wpAnyU_take (i := 9) (v := ?_) rfl (by kernel_rfl) (by kernel_rfl) (by kernel_rfl) (fun _ _ _ h => h) (by kernel_rfl) (Or.inl ⟨by rfl, ?_⟩) hS ?_
                      rotate_left
                      · (intro w hS; obtain ⟨s1, s2, s3, s4⟩ := hS; go_simp; try with_reducible rfl)
                      try simp only [List.getElem_toArray, List.getElem_cons_succ, List.getElem_cons_zero, Act.put, List.setIfInBounds_toArray, List.set_cons_zero, List.set_cons_succ]
                      refine wpAnyU_pure (i := 10) (v := ?_) rfl (by kernel_rfl) (by kernel_rfl) (by kernel_rfl) (fun _ _ _ h => h) (by kernel_rfl) (Or.inl ⟨by rfl, ?_⟩) (Or.inr hS) ?_
                      rotate_left
                      · (intro w _; go_simp; try with_reducible rfl)
                      try simp only [List.getElem_toArray, List.getElem_cons_succ, List.getElem_cons_zero, Act.put, List.setIfInBounds_toArray, List.set_cons_zero, List.set_cons_succ]
                      refine wpAnyU_one (i := 11) (by kernel_rfl) rfl (fun K hK => ?_)
                      go_simp
                      with_reducible refine hc9.mono ?_
                      rintro e V12 ⟨rfl, cells12, G12, hm12, hw12⟩
                      have HM12 := Lib.hid hm12.symm
                      have HW12 := Lib.hid (HW9d.out.trans hw12.symm)
                      have HBI12 := Lib.hid (HBI9d.out.went hw12.symm)
                      have HBX12 := Lib.hid (hw12.symm.1.blk HBX9d.out (HM9d.out.ne HBX9d.out (by decide) (by decide) (by decide)))
                      have HBT12 := Lib.hid (hw12.symm.1.blk HBT9d.out (HM9d.out.ne HBT9d.out (by decide) (by decide) (by decide)))
                      clear hm12 hw12 hc9
                      go_simp
                      replace hS := And.intro (HBX12.out.cell 0) (And.intro (HBX12.out.cell 1) (And.intro (HBX12.out.cell 2) (HBT12.out.cell 1)))
                      refine hK _ _ (Or.inr hS) ?_
                      clear hK K
                      try simp only [Array.getInternal_eq_getElem, List.getElem_toArray, List.getElem_cons_succ, List.getElem_cons_zero, Act.put, List.setIfInBounds_toArray, List.set_cons_zero, List.set_cons_succ]
                      refine wpAnyU_done (by kernel_rfl) ?_ _
                      clear hS
                      have HEND : Hid (St w0 W g bp D1 D2 #[.slice (some ⟨bA, oA, none⟩) n pcap, .int .i64 st, .int .i64 (c : Int)] n c L ⟨fA, fna, fca, some ⟨bn, on, none⟩, fkc, some ⟨bw, ow, none⟩, fvc, fqs, fvs⟩ X1 n (comeL L (AtB (nxt l j)) ((j : Int) + 1) (L.length + 1) Y y.out fit) bq (sq + 1 + (comeS L (AtB (nxt l j)) ((j : Int) + 1) (L.length + 1) Y y.out fit : Int)) bv' V12) := Lib.hid (by
                        obtain ⟨_, _, _, _, _, _, h1, h2, h3, h4⟩ := HRST.out
                        exact ⟨cells12, G12, HM12.out, HW12.out, HBI12.out, HBX12.out, h1, h2, h3, by have := HSQ.out; omega⟩)
                      go_wp2_with fail
                      go_roundg (X1.length - (p + 1))
                      case measure => have := HG2.out; omega
                      case rel => exact ⟨p + 1, bq, _, _, bv', rfl, by omega, by have := HLX.out; go_num, rfl, Lib.hid ⟨HEND.out, HH.out.1, HH.out.2.1, HFULLY.out, HFITY.out⟩⟩
                    | false =>
                      have HRPF := Lib.hid hrp
                      have H3c : Hid (scanP L (TP l) (RP l) lng j (X1.drop (p + 1)) bq Y = scanP L (TP l) (RP l) lng j X1 b [] ∧ sq + 1 + (scanN L (TP l) (RP l) lng j (X1.drop (p + 1)) bq Y : Int) = s1 + (scanN L (TP l) (RP l) lng j X1 b [] : Int) ∧ Full L Y ∧ FitL c Y) := Lib.hid (by
                        have h := H3.out
                        rw [if_neg (fun h => by rw [HRPF.out] at h; cases h.2), if_neg (fun h => by rw [HRPF.out] at h; cases h.2)] at h
                        simp only [Int.natCast_add, Int.natCast_one, Nat.add_zero, ← Int.add_assoc] at h
                        exact h)
                      go_wp2_with fail
                      go_roundg (X1.length - (p + 1))
                      case measure => have := HG2.out; omega
                      case rel => exact ⟨p + 1, bq, Y, sq + 1, bv', rfl, by omega, by have := HLX.out; go_num, rfl, Lib.hid (⟨HST9.out, H3c.out⟩)⟩
                  · have k2 : (y.op == 2) = false := by rw [beq_eq_false_iff_ne]; exact hop2
                    have H3c : Hid (scanP L (TP l) (RP l) lng j (X1.drop (p + 1)) bq Y = scanP L (TP l) (RP l) lng j X1 b [] ∧ sq + 1 + (scanN L (TP l) (RP l) lng j (X1.drop (p + 1)) bq Y : Int) = s1 + (scanN L (TP l) (RP l) lng j X1 b [] : Int) ∧ Full L Y ∧ FitL c Y) := Lib.hid (by
                      have h := H3.out
                      rw [if_neg (fun h => hop2 h.1), if_neg (fun h => hop2 h.1)] at h
                      simp only [Int.natCast_add, Int.natCast_one, Nat.add_zero, ← Int.add_assoc] at h
                      exact h)
                    clear hop2
                    go_wp2_with fail
                    go_roundg (X1.length - (p + 1))
                    case measure => have := HG2.out; omega
                    case rel => exact ⟨p + 1, bq, Y, sq + 1, bv', rfl, by omega, by have := HLX.out; go_num, rfl, Lib.hid (⟨HST8.out, H3c.out⟩)⟩
            · have hpi : ¬ (p : Int) < (X1.length : Int) := by omega
              have h0 : X1.drop p = [] := List.drop_of_length_le (by omega)
              have HRES : Hid (St w0 W g bp D1 D2 #[.slice PA n pcap, .int .i64 st, .int .i64 (c : Int)] n c L ⟨fA, fna, fca, fN, fkc, fV, fvc, fqs, fvs⟩ X1 n Y bq sq bv' wr ∧ scanP L (TP l) (RP l) lng j X1 b [] = (bq, Y) ∧ sq = s1 + (scanN L (TP l) (RP l) lng j X1 b [] : Int) ∧ Full L Y ∧ FitL c Y) := Lib.hid (by
                have h3 := HQ.out
                rw [h0] at h3
                simp only [scanP, scanN, Int.natCast_zero, Int.add_zero] at h3
                exact ⟨h3.1, h3.2.1.symm, h3.2.2.1, h3.2.2.2⟩)
              clear h0
              go_wp2_with fail
              go_meet
              case rel => exact ⟨bq, Y, sq, HRES⟩
        case rest =>
        obtain ⟨b', Y', s', HR2⟩ := hcut
        go_upto_region 41 with fail
        obtain ⟨cells7, G7, hm7, hw7, hbi7, hbx7, hfu7, hfl7, hbl7, hs7⟩ := HR2.out.1.drew
        have z0 := (hm7.l1.rows.box.cell 0).trans hm7.l1.c0
        have z1 := (hm7.l1.rows.box.cell 1).trans hm7.l1.c1
        have z2 := (hm7.l1.rows.box.cell 2).trans hm7.l1.c2
        have z3 := (hm7.l1.rows.box.cell 3).trans hm7.l2.c0
        have z4 := (hm7.l1.rows.box.cell 4).trans hm7.l2.c1
        have z5 := (hm7.l1.rows.box.cell 5).trans hm7.l2.c2
        have hS := And.intro z0 (And.intro z1 (And.intro z2 (And.intro z3 (And.intro z4 z5))))
        have HM7 := Lib.hid hm7
        have HW7 := Lib.hid hw7
        have HBI7 := Lib.hid hbi7
        have HBX7 := Lib.hid hbx7
        have HFU7 := Lib.hid (And.intro hfu7 (And.intro hfl7 (And.intro hbl7 hs7)))
        clear hm7 hw7 hbi7 hbx7 hfu7 hfl7 hbl7 hs7 z0 z1 z2 z3 z4 z5
        refine wp_region_U (S := fun w' => w'.cell? ⟨g, 0, none⟩ = some (.slice F2.A F2.na F2.ca) ∧ w'.cell? ⟨g, 1, none⟩ = some (.slice F2.N X1.length F2.kc) ∧ w'.cell? ⟨g, 2, none⟩ = some (.slice F2.V X1.length F2.vc) ∧ w'.cell? ⟨g, 3, none⟩ = some (.slice G7.A G7.na G7.ca) ∧ w'.cell? ⟨g, 4, none⟩ = some (.slice G7.N Y'.length G7.kc) ∧ w'.cell? ⟨g, 5, none⟩ = some (.slice G7.V Y'.length G7.vc)) (t := 12) (by kernel_rfl) ?_
        refine wpAnyU_pure (i := 0) (v := ?_) rfl (by kernel_rfl) (by kernel_rfl) (by kernel_rfl) (fun _ _ _ h => h) (by kernel_rfl) (Or.inl ⟨by rfl, ?_⟩) (Or.inr hS) ?_
        rotate_left
        · (intro w _; go_simp; try with_reducible rfl)
        try simp only [List.getElem_toArray, List.getElem_cons_zero, Act.put, List.setIfInBounds_toArray, List.set_cons_zero, List.set_cons_succ]
        refine wpAnyU_pure (i := 1) (v := ?_) rfl (by kernel_rfl) (by kernel_rfl) (by kernel_rfl) (fun _ _ _ h => h) (by kernel_rfl) (Or.inl ⟨by rfl, ?_⟩) (Or.inr hS) ?_
        rotate_left
        · (intro w _; go_simp; try with_reducible rfl)
        try simp only [List.getElem_toArray, List.getElem_cons_succ, List.getElem_cons_zero, Act.put, List.setIfInBounds_toArray, List.set_cons_zero, List.set_cons_succ]
        refine wpAnyU_pure (i := 2) (v := ?_) rfl (by kernel_rfl) (by kernel_rfl) (by kernel_rfl) (fun _ _ _ h => h) (by kernel_rfl) (Or.inl ⟨by rfl, ?_⟩) (Or.inr hS) ?_
        rotate_left
        · (intro w _; go_simp; try with_reducible rfl)
        try simp only [List.getElem_toArray, List.getElem_cons_succ, List.getElem_cons_zero, Act.put, List.setIfInBounds_toArray, List.set_cons_zero, List.set_cons_succ]
        refine wpAnyU_pure (i := 3) (v := ?_) rfl (by kernel_rfl) (by kernel_rfl) (by kernel_rfl) (fun _ _ _ h => h) (by kernel_rfl) (Or.inl ⟨by rfl, ?_⟩) (Or.inr hS) ?_
        rotate_left
        · (intro w _; go_simp; try with_reducible rfl)
        try simp only [List.getElem_toArray, List.getElem_cons_succ, List.getElem_cons_zero, Act.put, List.setIfInBounds_toArray, List.set_cons_zero, List.set_cons_succ]
        refine wpAnyU_pure (i := 4) (v := ?_) rfl (by kernel_rfl) (by kernel_rfl) (by kernel_rfl) (fun _ _ _ h => h) (by kernel_rfl) (Or.inl ⟨by rfl, ?_⟩) (Or.inr hS) ?_
        rotate_left
        · (intro w _; go_simp; try with_reducible rfl)
        try simp only [List.getElem_toArray, List.getElem_cons_succ, List.getElem_cons_zero, Act.put, List.setIfInBounds_toArray, List.set_cons_zero, List.set_cons_succ]
        refine wpAnyU_take (i := 5) (v := ?_) rfl (by kernel_rfl) (by kernel_rfl) (by kernel_rfl) (fun _ _ _ h => h) (by kernel_rfl) (Or.inl ⟨by rfl, ?_⟩) hS ?_
        rotate_left
        · (intro w hS; obtain ⟨s1, s2, s3, s4, s5, s6⟩ := hS; go_simp; try with_reducible rfl)
        try simp only [List.getElem_toArray, List.getElem_cons_succ, List.getElem_cons_zero, Act.put, List.setIfInBounds_toArray, List.set_cons_zero, List.set_cons_succ]
        refine wpAnyU_pure (i := 6) (v := ?_) rfl (by kernel_rfl) (by kernel_rfl) (by kernel_rfl) (fun _ _ _ h => h) (by kernel_rfl) (Or.inl ⟨by rfl, ?_⟩) (Or.inr hS) ?_
        rotate_left
        · (intro w _; go_simp; try with_reducible rfl)
        try simp only [List.getElem_toArray, List.getElem_cons_succ, List.getElem_cons_zero, Act.put, List.setIfInBounds_toArray, List.set_cons_zero, List.set_cons_succ]
        refine wpAnyU_pure (i := 7) (v := ?_) rfl (by kernel_rfl) (by kernel_rfl) (by kernel_rfl) (fun _ _ _ h => h) (by kernel_rfl) (Or.inl ⟨by rfl, ?_⟩) (Or.inr hS) ?_
        rotate_left
        · (intro w _; go_simp; try with_reducible rfl)
        try simp only [List.getElem_toArray, List.getElem_cons_succ, List.getElem_cons_zero, Act.put, List.setIfInBounds_toArray, List.set_cons_zero, List.set_cons_succ]
        refine wpAnyU_pure (i := 8) (v := ?_) rfl (by kernel_rfl) (by kernel_rfl) (by kernel_rfl) (fun _ _ _ h => h) (by kernel_rfl) (Or.inl ⟨by rfl, ?_⟩) (Or.inr hS) ?_
        rotate_left
        · (intro w _; go_simp; try with_reducible rfl)
        try simp only [List.getElem_toArray, List.getElem_cons_succ, List.getElem_cons_zero, Act.put, List.setIfInBounds_toArray, List.set_cons_zero, List.set_cons_succ]
        refine wpAnyU_take (i := 9) (v := ?_) rfl (by kernel_rfl) (by kernel_rfl) (by kernel_rfl) (fun _ _ _ h => h) (by kernel_rfl) (Or.inl ⟨by rfl, ?_⟩) hS ?_
        rotate_left
        · (intro w hS; obtain ⟨s1, s2, s3, s4, s5, s6⟩ := hS; go_simp; try with_reducible rfl)
        try simp only [List.getElem_toArray, List.getElem_cons_succ, List.getElem_cons_zero, Act.put, List.setIfInBounds_toArray, List.set_cons_zero, List.set_cons_succ]
        refine wpAnyU_pure (i := 10) (v := ?_) rfl (by kernel_rfl) (by kernel_rfl) (by kernel_rfl) (fun _ _ _ h => h) (by kernel_rfl) (Or.inl ⟨by rfl, ?_⟩) (Or.inr hS) ?_
        rotate_left
        · (intro w _; go_simp; try with_reducible rfl)
        try simp only [List.getElem_toArray, List.getElem_cons_succ, List.getElem_cons_zero, Act.put, List.setIfInBounds_toArray, List.set_cons_zero, List.set_cons_succ]
        refine wpAnyU_pure (i := 11) (v := ?_) rfl (by kernel_rfl) (by kernel_rfl) (by kernel_rfl) (fun _ _ _ h => h) (by kernel_rfl) (Or.inl ⟨by rfl, ?_⟩) (Or.inr hS) ?_
        rotate_left
        · (intro w _; go_simp; try with_reducible rfl)
        try simp only [List.getElem_toArray, List.getElem_cons_succ, List.getElem_cons_zero, Act.put, List.setIfInBounds_toArray, List.set_cons_zero, List.set_cons_succ]
        refine wpAnyU_one (i := 12) (by kernel_rfl) rfl (fun K hK => ?_)
        generalize wc.drew = V0 at hS HM7 HW7 HBI7 HBX7 ⊢
        obtain ⟨s1, s2, s3, s4, s5, s6⟩ := hS
        have f0 := HM7.out.l1.rows.box.frozen 0
        have f1 := HM7.out.l1.rows.box.frozen 1
        have f2 := HM7.out.l1.rows.box.frozen 2
        have f3 := HM7.out.l1.rows.box.frozen 3
        have f4 := HM7.out.l1.rows.box.frozen 4
        have f5 := HM7.out.l1.rows.box.frozen 5
        go_simp
        refine hK _ _ (Or.inl (by rfl)) ?_
        clear hK K
        try simp only [Array.getInternal_eq_getElem, List.getElem_toArray, List.getElem_cons_succ, List.getElem_cons_zero, Act.put, List.setIfInBounds_toArray, List.set_cons_zero, List.set_cons_succ]
        refine wpAnyU_pure (i := 13) (v := ?_) rfl (by kernel_rfl) (by kernel_rfl) (by kernel_rfl) (fun _ _ _ h => h) (by kernel_rfl) (Or.inl ⟨by rfl, ?_⟩) (Or.inl (by rfl)) ?_
        rotate_left
        · (intro w _; go_simp; try with_reducible rfl)
        try simp only [List.getElem_toArray, List.getElem_cons_succ, List.getElem_cons_zero, Act.put, List.setIfInBounds_toArray, List.set_cons_zero, List.set_cons_succ]
        refine wpAnyU_pure (i := 14) (v := ?_) rfl (by kernel_rfl) (by kernel_rfl) (by kernel_rfl) (fun _ _ _ h => h) (by kernel_rfl) (Or.inl ⟨by rfl, ?_⟩) (Or.inl (by rfl)) ?_
        rotate_left
        · (intro w _; go_simp; try with_reducible rfl)
        try simp only [List.getElem_toArray, List.getElem_cons_succ, List.getElem_cons_zero, Act.put, List.setIfInBounds_toArray, List.set_cons_zero, List.set_cons_succ]
        refine wpAnyU_one (i := 15) (by kernel_rfl) rfl (fun K hK => ?_)
        go_simp
        refine hK _ _ (Or.inl (by rfl)) ?_
        clear hK K
        try simp only [Array.getInternal_eq_getElem, List.getElem_toArray, List.getElem_cons_succ, List.getElem_cons_zero, Act.put, List.setIfInBounds_toArray, List.set_cons_zero, List.set_cons_succ]
        refine wpAnyU_done (by kernel_rfl) ?_ _
        have hsw7 := HM7.out.swap
        clear s1 s2 s3 s4 s5 s6 f0 f1 f2 f3 f4 f5
        have HSW := Lib.hid hsw7
        clear hsw7
        rw [show ((((((V0.setCell ⟨g, 0, none⟩ (.slice G7.A G7.na G7.ca)).setCell ⟨g, 1, none⟩ (.slice G7.N Y'.length G7.kc)).setCell ⟨g, 2, none⟩ (.slice G7.V Y'.length G7.vc)).setCell ⟨g, 3, none⟩ (.slice F2.A F2.na F2.ca)).setCell ⟨g, 4, none⟩ (.slice F2.N X1.length F2.kc)).setCell ⟨g, 5, none⟩ (.slice F2.V X1.length F2.vc)) = swapW g F2 G7 X1.length Y'.length V0 from rfl]
        have HEND : Hid (St w0 W g bp D1 D2 #[.slice PA n pcap, .int .i64 st, .int .i64 (c : Int)] n c L G7 Y' n X1 b' s' u15 (swapW g F2 G7 X1.length Y'.length V0)) := Lib.hid (by
          obtain ⟨cells8, h1, h2, h3⟩ := HSW.out
          exact ⟨cells8, F2, h1, HW7.out.trans h2, HBI7.out.went h2, h3.blk HBX7.out (Blk.ne HBX7.out HM7.out.l1.rows.box (by decide)), HR2.out.2.2.2.1, HR2.out.2.2.2.2, HFU7.out.2.2.1, HFU7.out.2.2.2⟩)
        have HPZ : Hid (findP L (TP l) (RP l) st (fit0 c) lng anch fr (l.length - (j + 1)) (j + 1) Y' b' = Rv ∧ s' + (findN L (TP l) (RP l) st (fit0 c) lng anch fr (l.length - (j + 1)) (j + 1) Y' b' : Int) = (k : Int)) := Lib.hid (by
          have h1 := HPP.out
          have h2 := HNN.out
          rw [if_neg (by rw [HSTOP.out]; simp), HR2.out.2.1] at h1 h2
          have h3 := HKK.out
          rw [show l.length - (j + 1) = kk by omega]
          refine ⟨h1, ?_⟩
          have h4 := HR2.out.2.2.1
          simp only [Int.natCast_add] at h2
          omega)
        generalize swapW g F2 G7 X1.length Y'.length V0 = V9 at HEND ⊢
        have hj1 : (j : Int) + 1 ≤ 100000 := by have := HL.out.2; omega
        clear HSW HM7 HW7 HBI7 HBX7 HFU7 HR2 HPP HNN
        go_wp2_with fail
        dsimp only [Exit.noGoto, Exit.inBlock, Exit.then]
        go_wp2_with fail
        go_roundg (l.length + 1 - (j + 1))
        case measure => have := HG.out; omega
        case rel => exact ⟨j + 1, b', Y', G7, n, X1, s', u15, rfl, by go_num, rfl, Lib.hid ⟨HEND.out, HPZ.out.1, HPZ.out.2, by omega⟩⟩
    · have hi : ¬ (j : Int) ≤ (l.length : Int) - 1 := by omega
      have h0 : l.length - j = 0 := by omega
      have HF := HR.out.2
      rw [h0] at HF
      have hb : b = Rv := HF.1
      have hk : s = (k : Int) := by have := HF.2.1; simp only [findN, Int.natCast_zero, Int.add_zero] at this; exact this
      have HFIN := Lib.hid (fun d => HR.out.1.fin hk d)
      obtain ⟨c6, _⟩ := HR.out.1.c6
      have HBB := Lib.hid hb
      have hbest := HR.out.1.best
      clear HF h0 hlt hk hb HR
      rcases hbest with ⟨rfl, rfl⟩ | ⟨f, bb, bo, cc, rfl, _, rfl, _⟩
      · go_upto_region 42 with (go_at_call 17; with_reducible refine hlen.mono ?_; rintro e w' ⟨rfl, rfl⟩)
        clear hlen
        go_quiet (fail)
        go_wp2_with fail
        go_ret3
        rw [HRV.out, ← HBB.out]
        exact HFIN.out _
      · go_upto_region 42 with (go_at_call 17; with_reducible refine hlen.mono ?_; rintro e w' ⟨rfl, rfl⟩)
        clear hlen
        go_quiet (fail)
        go_wp2_with fail
        go_ret3
        rw [HRV.out, ← HBB.out]
        exact HFIN.out _
end Go.Proofs.YtbhcgjahlfpjoaaDoor
