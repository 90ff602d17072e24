/- progs.Next: the walk. -/
import Derived.Test.YtbhcgjahlfpjoaaPn1
import Derived.Test.YtbhcgjahlfpjoaaOpT3
namespace Go.Proofs.Ytbhcgjahlfpjoaa
open Go.RowKit

/-- What a Next answers. -/
def NxB (n : Nat) (st cp r : Int) (L : List MI) (l : List Int) (w : World) (e : Ending) (w' : World) : Prop :=
  Below w.heap.size w w' ∧ ((¬ PgOK n st cp L ∧ e = .returned (.slice none 0 0)) ∨
    (PgOK n st cp L ∧ ∃ (O : Option Addr) (oc : Nat), e = .returned (.slice O (nextL L r l (CS.start n)).out.length oc) ∧
      w'.ownsRow w.heap.size 3 1 (.slice O (nextL L r l (CS.start n)).out.length oc) (nextL L r l (CS.start n)).out.length (i64s (nextL L r l (CS.start n)).out)))

set_option maxRecDepth 20000 in
set_option maxHeartbeats 1000000 in
theorem next_bad {w : World} {A : Option Addr} {n c : Nat} {st cp : Int} {L : List MI} (hA : PgIn w A n c L) (hs : ∀ x ∈ L, x.n ≤ 1000000) {B : Option Addr} {m d : Nat} (l : List Int) (r : Int) (hno : ¬ PgOK n st cp L) :
    Calls Try.prog 44 #[.agg #[.slice A n c, .int .i64 st, .int .i64 cp], .slice B m d, .int .i32 r] w (NxB n st cp r L l w) := by
  have hb : Below w.heap.size w (w.alloc (.cells #[.slice A n c, .int .i64 st, .int .i64 cp] 38)) := (Below.refl _ _).alloc (Nat.le_refl _) _
  have hcon := pcheck_any (hA.below hb) (st := st) (cp := cp) hs
  have HB := Lib.hid hb
  have HNO := Lib.hid hno
  clear hA hs hb hno
  go_enter Try.func44, Try.ntmps44
  go_wp2_with fail
  refine hcon.mono ?_
  rintro e w2 ⟨v, rfl, hv, hb2⟩
  obtain ⟨rfl⟩ : v = 121 := by
    rcases hv with ⟨_, h⟩ | ⟨h, _⟩
    · exact absurd h HNO.out
    · exact h
  have HB2 := Lib.hid (HB.out.trans (hb2.mono HB.out.size))
  clear hcon hb2 hv
  go_wp2_with fail
  go_ret
  exact ⟨HB2.out, .inl ⟨HNO.out, rfl⟩⟩

set_option maxRecDepth 20000 in
set_option maxHeartbeats 2000000 in
theorem next_yes {w : World} {A : Option Addr} {n c : Nat} {st cp : Int} {L : List MI} (hA : PgIn w A n c L) (hs : ∀ x ∈ L, x.n ≤ 1000000) {B : Option Addr} {m d : Nat} {l : List Int} (hI : IlIn w B m d l) (r : Int) (hyes : PgOK n st cp L) :
    Calls Try.prog 44 #[.agg #[.slice A n c, .int .i64 st, .int .i64 cp], .slice B m d, .int .i32 r] w (NxB n st cp r L l w) := by
  have hb : Below w.heap.size w (w.alloc (.cells #[.slice A n c, .int .i64 st, .int .i64 cp] 38)) := (Below.refl _ _).alloc (Nat.le_refl _) _
  have hB := Blk.new w 38 #[.slice A n c, .int .i64 st, .int .i64 cp]
  have hcon := pcheck_any (hA.below hb) (st := st) (cp := cp) hs
  have hmm : (m : Int) ≤ 9223372036854775807 := by have h1 := hI.max; have h2 := hI.le; unfold maxLen at h1; omega
  have HL := Lib.hid (Leads.of_ok hyes hA.len)
  have hn1 : (n : Int) ≤ 10000 := by have := hyes.2.1; omega
  have HB := Lib.hid hb
  have HBK := Lib.hid hB
  have HYES := Lib.hid hyes
  have HI := Lib.hid hI
  have HA := Lib.hid hA
  have HSM := Lib.hid hs
  clear hA hs hb hyes hI hB
  go_enter Try.func44, Try.ntmps44
  go_wp2_with fail
  refine hcon.mono ?_
  rintro e w2 ⟨v, rfl, hv, hb2⟩
  obtain ⟨rfl⟩ : v = 0 := by
    rcases hv with ⟨h, _⟩ | ⟨_, h⟩
    · exact h
    · exact absurd HYES.out h
  have HB3 := Lib.hid (HB.out.trans (hb2.mono HB.out.size))
  have hB3 := HBK.out.below hb2 HBK.out.lt
  have HBK3 := Lib.hid hB3
  have c1 := hB3.cell 0
  simp only [List.getElem?_toArray, List.getElem?_cons_zero] at c1
  clear hcon hb2 hv HBK HB hB3
  go_wp2_with fail
  simp only [mkSeen _ HYES.out.2.1, Result.andThen_ok]
  go_wp2_with fail
  obtain ⟨gs, hgs⟩ : ∃ gs, gs = w2.heap.size := ⟨_, rfl⟩
  have h0 : ClM w (w2.alloc (.cells ((List.replicate n false).map Value.bool).toArray 4)) A n c st cp gs (List.replicate n false) none 0 [] none 0 [] :=
    ⟨HB3.out.alloc HB3.out.size _, HBK3.out.alloc _, hgs ▸ Blk.new w2 _ _, World.ownsRow_nil _ _ _ _, World.ownsRow_nil _ _ _ _, .inl rfl, hgs ▸ HB3.out.size⟩
  rw [← hgs]
  clear HB3 HBK3 c1 hgs
  rw [show ((List.replicate n false).map Value.bool).toArray = Array.replicate n (Value.bool false) by simp] at h0
  have H0 := Lib.hid h0
  clear h0
  generalize w2.alloc (.cells (Array.replicate n (Value.bool false)) 4) = w4 at H0 ⊢
  go_loopg [21, 7] (m + 1) (fun q i o W => ∃ (j oc : Nat) (O : Option Addr) (s : CS), q = m + 1 - j ∧ j ≤ m ∧ i = .int .i64 (j : Int) ∧ o = .slice O s.out.length oc ∧
    Hid (ClM w W A n c st cp gs s.seen O oc s.out none 0 [] ∧ s.seen.length = n ∧ s.out.length + s.left ≤ n ∧ s = nextL L r (l.take j) (CS.start n)))
  case atStart => exact ⟨0, 0, none, CS.start n, rfl, Nat.zero_le _, rfl, rfl, Lib.hid ⟨H0.out, by simp [CS.start], by simp [CS.start, CS.left], rfl⟩⟩
  case round =>
    obtain ⟨j, oc, O, s, hgk, hj, rfl, rfl, HR⟩ := hrel
    have HG := Lib.hid hgk
    have HJ := Lib.hid hj
    clear hgk hj
    by_cases hlt : j < m
    · obtain ⟨b, o, x, rfl, hb, hx, hc⟩ := HI.out.at hlt
      have c1 := hc wr (.of_below HR.out.1.below (Nat.le_refl _))
      have c0 := HR.out.1.box.cell 0
      simp only [List.getElem?_toArray, List.getElem?_cons_zero] at c0
      have hi : (j : Int) < (m : Int) := by omega
      have HX := Lib.hid hx
      have HLT := Lib.hid hlt
      clear hc hb hx hlt
      have HSAME : nextS L r s x = s → Hid (s = nextL L r (l.take (j + 1)) (CS.start n)) := fun h => Lib.hid (by rw [nextL_take HX.out, ← HR.out.2.2.2, h])
      by_cases h0 : 0 ≤ x
      · by_cases h1 : x < (n : Int)
        · obtain ⟨q, rfl⟩ : ∃ q : Nat, x = (q : Int) := ⟨x.toNat, by omega⟩
          have hqn : q < n := by omega
          have e0 : decide ((q : Int) < 0) = false := decide_eq_false (by omega)
          have e1 : decide ((n : Int) ≤ (q : Int)) = false := decide_eq_false (by omega)
          obtain ⟨bA, oA, y, rfl, _, hy, hyI, hyc⟩ := HA.out.at hqn
          obtain ⟨c4, c5, c6, c7, c8⟩ := hyc wr (.of_below HR.out.1.below (Nat.le_refl _))
          obtain ⟨_, hlo, _, _⟩ := HL.out y (List.mem_of_getElem? hy)
          rw [HA.out.len] at hlo
          have HLO := Lib.hid hlo
          have HY := Lib.hid hy
          have HQN := Lib.hid hqn
          have HYI := Lib.hid hyI
          have hqi : (q : Int) < (n : Int) := by omega
          clear hyc hy hqn hyI hlo h0 h1
          go_upto_region 10 with fail
          have hbx := Blk.new wr 60 #[.int .i64 y.op, .int .i64 y.out, .int .i64 y.arg, .slice y.A y.n y.c, .int .i64 y.at_]
          have d0 := hbx.cell 0
          have d1 := hbx.cell 1
          have d3 := hbx.cell 3
          simp only [List.getElem?_toArray, List.getElem?_cons_zero, List.getElem?_cons_succ] at d0 d1 d3
          have HBX := Lib.hid hbx
          have HM2 := Lib.hid (HR.out.1.alloc (.cells #[.int .i64 y.op, .int .i64 y.out, .int .i64 y.arg, .slice y.A y.n y.c, .int .i64 y.at_] 60))
          clear hbx c0 c1 c4 c5 c6 c7 c8
          generalize wr.alloc (.cells #[.int .i64 y.op, .int .i64 y.out, .int .i64 y.arg, .slice y.A y.n y.c, .int .i64 y.at_] 60) = W2 at d0 d1 d3 HBX HM2 ⊢
          generalize wr.heap.size = gx at d0 d1 d3 HBX ⊢
          by_cases hop : y.op = 2
          · have t0 : (y.op == 2) = true := beq_iff_eq.2 hop
            have ho := HLO.out (.inl hop)
            obtain ⟨k, hk⟩ : ∃ k : Nat, y.out = (k : Int) := ⟨y.out.toNat, by omega⟩
            have hkn : k < n := by omega
            have hki : (k : Int) < (n : Int) := by omega
            rw [hk] at d1
            have hsl := HR.out.2.1
            have hsk : s.seen[k]? = some (s.seen[k]'(by omega)) := List.getElem?_eq_getElem _
            have HOP := Lib.hid hop
            have HK := Lib.hid hk
            cases hbk : s.seen[k]'(by omega) with
            | true =>
              rw [hbk] at hsk
              have g1 := HM2.out.seenAt hsk
              have HN := HSAME (nextS_no HY.out fun h => by have := h.2.1; rw [HK.out, Int.toNat_natCast, hsk] at this; cases this)
              clear HSAME hop hk hsl hbk hsk ho hkn
              go_wp2_with fail
              go_roundg (m + 1 - (j + 1))
              case measure => have := HG.out; have := HLT.out; omega
              case rel => exact ⟨j + 1, oc, O, s, rfl, by have := HLT.out; omega, by go_num, rfl, Lib.hid ⟨HM2.out, HR.out.2.1, HR.out.2.2.1, HN.out⟩⟩
            | false =>
              rw [hbk] at hsk
              have g1 := HM2.out.seenAt hsk
              have HSK := Lib.hid hsk
              have hcall := has_any (HYI.out.below HM2.out.below) r
              cases hh : hasB y.set r with
              | false =>
                rw [hh] at hcall
                have HN := HSAME (nextS_no HY.out fun h => by rw [hh] at h; cases h.2.2)
                clear HSAME hop hk hsl hbk hsk ho hkn hh
                go_wp2_with fail
                refine hcall.mono ?_
                rintro e W5 ⟨rfl, hb5⟩
                have HM5 := Lib.hid (HM2.out.on hb5)
                clear hcall hb5
                go_wp2_with fail
                go_roundg (m + 1 - (j + 1))
                case measure => have := HG.out; have := HLT.out; omega
                case rel => exact ⟨j + 1, oc, O, s, rfl, by have := HLT.out; omega, by go_num, rfl, Lib.hid ⟨HM5.out, HR.out.2.1, HR.out.2.2.1, HN.out⟩⟩
              | true =>
                rw [hh] at hcall
                have HH := Lib.hid hh
                have hos : s.out.length ≤ 10000 := by have := HR.out.2.2.1; omega
                clear HSAME hop hk hsl hbk hsk ho hkn hh
                go_wp2_with fail
                refine hcall.mono ?_
                rintro e W5 ⟨rfl, hb5⟩
                have HM5 := Lib.hid (HM2.out.on hb5)
                have hb5x := HBX.out.below hb5 HBX.out.lt
                have HBX5 := Lib.hid hb5x
                have f5 := HM5.out.seenB.frozen k
                have g5 := HM5.out.seenAt HSK.out
                clear d0 d1 d3 g1
                have d1 := hb5x.cell 1
                simp only [List.getElem?_toArray, List.getElem?_cons_zero, List.getElem?_cons_succ] at d1
                rw [HK.out] at d1
                have HM6 := Lib.hid (HM5.out.setSeen k)
                have hne : gx ≠ gs := Blk.ne hb5x HM5.out.seenB (by decide)
                have hb6x := hb5x.far (p := ⟨gs, k, none⟩) hne (.bool true)
                have d6 := hb6x.cell 1
                simp only [List.getElem?_toArray, List.getElem?_cons_zero, List.getElem?_cons_succ] at d6
                rw [HK.out] at d6
                clear hcall hb5 hb5x hb6x hne
                go_upto_region 12 with fail
                generalize W5.setCell ⟨gs, k, none⟩ (.bool true) = W6 at HM6 d6 ⊢
                clear d1 f5 g5
                go_wp2_with (at_builtin; refine wpList_app _ rfl _ _ 42 rfl w.heap.size 3 elI (.slice O s.out.length oc) _ _ rfl (HM6.out.own.alloc _) 0 (W6.heap.size + 1) _ 1 1 [.int .i64 (k : Int)] rfl (fun h => by cases h) rfl (Rd.new W6 _ _ _ (Nat.zero_le _) (by omega)) (by simp [Value.oneCell']) (by unfold maxLen; omega) (by omega) (by have := HM6.out.below.size; simp; omega) ?_; intro v' W7 hO hg hb _; obtain ⟨O3, oc3, rfl, hM3⟩ := (HM6.out.alloc _).putOut hO hg hb; have HM3 := Lib.hid hM3; clear hO hg hb hM3)
                have hst : nextS L r s (q : Int) = ⟨s.seen.set k true, s.out ++ [(k : Int)], s.mt⟩ := by rw [nextS_yes HY.out ⟨HOP.out, by rw [HK.out, Int.toNat_natCast]; exact HSK.out, HH.out⟩, HK.out, Int.toNat_natCast]
                have hnum := nextS_num (L := L) (c := r) (s := s) (pc := (q : Int))
                rw [hst] at hnum
                go_roundg (m + 1 - (j + 1))
                case measure => have := HG.out; have := HLT.out; omega
                case rel => exact ⟨j + 1, oc3, O3, ⟨s.seen.set k true, s.out ++ [(k : Int)], s.mt⟩, rfl, by have := HLT.out; omega, by go_num, by simp, Lib.hid ⟨HM3.out, hnum.1.trans HR.out.2.1, Nat.le_trans hnum.2 HR.out.2.2.1, by rw [nextL_take HX.out, ← HR.out.2.2.2, hst]⟩⟩
          · have t0 : (y.op == 2) = false := beq_eq_false_iff_ne.2 hop
            have HN := HSAME (nextS_no HY.out fun h => hop h.1)
            clear HSAME hop
            go_wp2_with fail
            go_roundg (m + 1 - (j + 1))
            case measure => have := HG.out; have := HLT.out; omega
            case rel => exact ⟨j + 1, oc, O, s, rfl, by have := HLT.out; omega, by go_num, rfl, Lib.hid ⟨HM2.out, HR.out.2.1, HR.out.2.2.1, HN.out⟩⟩
        · have d0 : decide (x < 0) = false := decide_eq_false (by omega)
          have d1 : decide ((n : Int) ≤ x) = true := decide_eq_true (by omega)
          have HN := HSAME (nextS_hi (by rw [HA.out.len]; exact h1))
          clear HSAME h0 h1
          go_wp2_with fail
          go_roundg (m + 1 - (j + 1))
          case measure => have := HG.out; have := HLT.out; omega
          case rel => exact ⟨j + 1, oc, O, s, rfl, by have := HLT.out; omega, by go_num, rfl, Lib.hid ⟨HR.out.1, HR.out.2.1, HR.out.2.2.1, HN.out⟩⟩
      · have d0 : decide (x < 0) = true := decide_eq_true (by omega)
        have HN := HSAME (nextS_lo h0)
        clear HSAME h0
        go_wp2_with fail
        go_roundg (m + 1 - (j + 1))
        case measure => have := HG.out; have := HLT.out; omega
        case rel => exact ⟨j + 1, oc, O, s, rfl, by have := HLT.out; omega, by go_num, rfl, Lib.hid ⟨HR.out.1, HR.out.2.1, HR.out.2.2.1, HN.out⟩⟩
    · have hi : ¬ (j : Int) < (m : Int) := by omega
      have hjm : j = m := by have := HJ.out; omega
      have HF : Hid (s = nextL L r l (CS.start n)) := Lib.hid (by have := HR.out.2.2.2; rw [hjm, ← HI.out.len, List.take_length] at this; exact this)
      clear hlt hjm
      go_wp2_with fail
      go_ret
      exact ⟨HR.out.1.below, .inr ⟨HYES.out, O, oc, by rw [← HF.out]; rfl, by rw [← HF.out]; exact HR.out.1.own⟩⟩
end Go.Proofs.Ytbhcgjahlfpjoaa
