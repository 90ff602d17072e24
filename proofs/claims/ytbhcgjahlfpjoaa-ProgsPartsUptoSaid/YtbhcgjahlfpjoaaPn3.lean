/- The reference's Next: the walk. -/
import Derived.Test.YtbhcgjahlfpjoaaPn2
namespace Go.Proofs.Ytbhcgjahlfpjoaa
open Go.RowKit

theorem ClM.drewN {w W : World} {A : Option Addr} {n c : Nat} {st cp : Int} {gs : Nat} {seen : List Bool} {O : Option Addr} {oc : Nat} {out : List Int} {K : Option Addr} {kc : Nat} {k : List Int} (h : ClM w W A n c st cp gs seen O oc out K kc k) (d : Nat) : ClM w (W.drewN d) A n c st cp gs seen O oc out K kc k :=
  ⟨h.below.drewN, h.box.drewN d, h.seenB.drewN d, h.own, h.stk, h.sep, h.gsB⟩
set_option maxRecDepth 20000 in
set_option maxHeartbeats 1000000 in
theorem rnext_bad {w : World} {A : Option Addr} {n c : Nat} {st cp : Int} {L : List MI} (hA : PgIn w A n c L) {B : Option Addr} {m d : Nat} (l : List Int) (r : Int) (hno : ¬ PgOK n st cp L) :
    Calls Try.prog 45 #[.agg #[.slice A n c, .int .i64 st, .int .i64 cp], .slice B m d, .int .i32 r] w (NxB n st cp r L l w) := by
  have hb : Below w.heap.size w (w.alloc (.cells #[.slice A n c, .int .i64 st, .int .i64 cp] 38)) := (Below.refl _ _).alloc (Nat.le_refl _) _
  have hcon := rcheck_any (hA.below hb) (st := st) (cp := cp)
  have HB := Lib.hid hb
  have HNO := Lib.hid hno
  clear hA hb hno
  go_enter Try.func45, Try.ntmps45
  go_wp2_with fail
  refine hcon.mono ?_
  rintro e w2 ⟨v, rfl, hv, hb2⟩
  obtain ⟨rfl⟩ : v = 121 := by
    rcases hv with ⟨_, h⟩ | ⟨h, _⟩
    · exact absurd h HNO.out
    · exact h
  have HB2 := Lib.hid (HB.out.trans (hb2.mono HB.out.size))
  clear hcon hb2 hv
  go_wp2_with fail
  go_ret
  exact ⟨HB2.out, .inl ⟨HNO.out, rfl⟩⟩

set_option maxRecDepth 20000 in
set_option maxHeartbeats 2000000 in
theorem rnext_yes {w : World} {A : Option Addr} {n c : Nat} {st cp : Int} {L : List MI} (hA : PgIn w A n c L) {B : Option Addr} {m d : Nat} {l : List Int} (hI : IlIn w B m d l) (r : Int) (hyes : PgOK n st cp L) :
    Calls Try.prog 45 #[.agg #[.slice A n c, .int .i64 st, .int .i64 cp], .slice B m d, .int .i32 r] w (NxB n st cp r L l w) := by
  have hb : Below w.heap.size w (w.alloc (.cells #[.slice A n c, .int .i64 st, .int .i64 cp] 38)) := (Below.refl _ _).alloc (Nat.le_refl _) _
  have hB := Blk.new w 38 #[.slice A n c, .int .i64 st, .int .i64 cp]
  have hcon := rcheck_any (hA.below hb) (st := st) (cp := cp)
  have hmm : (m : Int) ≤ 9223372036854775807 := by have h1 := hI.max; have h2 := hI.le; unfold maxLen at h1; omega
  have HL := Lib.hid (Leads.of_ok hyes hA.len)
  have hn1 : (n : Int) ≤ 10000 := by have := hyes.2.1; omega
  have HB := Lib.hid hb
  have HBK := Lib.hid hB
  have HYES := Lib.hid hyes
  have HI := Lib.hid hI
  have HA := Lib.hid hA
  clear hA hb hyes hI hB
  go_enter Try.func45, Try.ntmps45
  go_wp2_with fail
  refine hcon.mono ?_
  rintro e w2 ⟨v, rfl, hv, hb2⟩
  obtain ⟨rfl⟩ : v = 0 := by
    rcases hv with ⟨h, _⟩ | ⟨_, h⟩
    · exact h
    · exact absurd HYES.out h
  have HB3 := Lib.hid (HB.out.trans (hb2.mono HB.out.size))
  have hB3 := HBK.out.below hb2 HBK.out.lt
  have HBK3 := Lib.hid hB3
  have c1 := hB3.cell 0
  simp only [List.getElem?_toArray, List.getElem?_cons_zero] at c1
  clear hcon hb2 hv HBK HB hB3
  go_wp2_with fail
  simp only [mkSeen _ HYES.out.2.1, Result.andThen_ok]
  go_wp2_with fail
  obtain ⟨gs, hgs⟩ : ∃ gs, gs = w2.heap.size := ⟨_, rfl⟩
  have h0 : ClM w (w2.alloc (.cells ((List.replicate n false).map Value.bool).toArray 4)) A n c st cp gs (List.replicate n false) none 0 [] none 0 [] :=
    ⟨HB3.out.alloc HB3.out.size _, HBK3.out.alloc _, hgs ▸ Blk.new w2 _ _, World.ownsRow_nil _ _ _ _, World.ownsRow_nil _ _ _ _, .inl rfl, hgs ▸ HB3.out.size⟩
  rw [← hgs]
  clear HB3 HBK3 c1 hgs
  rw [show ((List.replicate n false).map Value.bool).toArray = Array.replicate n (Value.bool false) by simp] at h0
  have H0 := Lib.hid h0
  clear h0
  generalize w2.alloc (.cells (Array.replicate n (Value.bool false)) 4) = w4 at H0 ⊢
  go_loopg [9, 8] (m + 1) (fun q i o W => ∃ (j oc : Nat) (O : Option Addr) (s : CS), q = m + 1 - j ∧ j ≤ m ∧ i = .int .i64 (j : Int) ∧ o = .slice O s.out.length oc ∧
    Hid (ClM w W A n c st cp gs s.seen O oc s.out none 0 [] ∧ s.seen.length = n ∧ s.out.length + s.left ≤ n ∧ s = nextL L r (l.take j) (CS.start n)))
  case atStart => exact ⟨0, 0, none, CS.start n, rfl, Nat.zero_le _, rfl, rfl, Lib.hid ⟨H0.out, by simp [CS.start], by simp [CS.start, CS.left], rfl⟩⟩
  case round =>
    obtain ⟨j, oc, O, s, hgk, hj, rfl, rfl, HR⟩ := hrel
    have HG := Lib.hid hgk
    have HJ := Lib.hid hj
    clear hgk hj
    by_cases hlt : j < m
    · obtain ⟨b, o, x, rfl, hb, hx, hc⟩ := HI.out.at hlt
      have c1 := hc wr (.of_below HR.out.1.below (Nat.le_refl _))
      have hx1 := hc
      have c0 := HR.out.1.box.cell 0
      simp only [List.getElem?_toArray, List.getElem?_cons_zero] at c0
      have hi : (j : Int) < (m : Int) := by omega
      have HX := Lib.hid hx
      have HLT := Lib.hid hlt
      clear hc hb hx hlt
      have HSAME : nextS L r s x = s → Hid (s = nextL L r (l.take (j + 1)) (CS.start n)) := fun h => Lib.hid (by rw [nextL_take HX.out, ← HR.out.2.2.2, h])
      by_cases h0 : 0 ≤ x
      · by_cases h1 : x < (n : Int)
        · obtain ⟨q, rfl⟩ : ∃ q : Nat, x = (q : Int) := ⟨x.toNat, by omega⟩
          have hqn : q < n := by omega
          have e0 : decide ((q : Int) < 0) = false := decide_eq_false (by omega)
          have e1 : decide ((n : Int) ≤ (q : Int)) = false := decide_eq_false (by omega)
          have e2 : decide (n ≤ q) = false := decide_eq_false (by omega)
          obtain ⟨bA, oA, y, rfl, _, hy, hyI, hyc⟩ := HA.out.at hqn
          obtain ⟨c4, c5, c6, c7, c8⟩ := hyc wr (.of_below HR.out.1.below (Nat.le_refl _))
          obtain ⟨_, hlo, _, _⟩ := HL.out y (List.mem_of_getElem? hy)
          rw [HA.out.len] at hlo
          have HLO := Lib.hid hlo
          have HY := Lib.hid hy
          have HQN := Lib.hid hqn
          have HYI := Lib.hid hyI
          have hqi : (q : Int) < (n : Int) := by omega
          have hst : ∀ W, Below wr.heap.size wr W → W.cell? ⟨w.heap.size, 0, none⟩ = some (.slice (some ⟨bA, oA, none⟩) n c) ∧ W.cell? ⟨b, o + j, none⟩ = some (.int .i64 (q : Int)) ∧ W.cell? ⟨bA, oA + q * 5, none⟩ = some (.int .i64 y.op) ∧ W.cell? ⟨bA, oA + q * 5 + 1, none⟩ = some (.int .i64 y.out) ∧ W.cell? ⟨bA, oA + q * 5 + 2, none⟩ = some (.int .i64 y.arg) ∧ W.cell? ⟨bA, oA + q * 5 + 3, none⟩ = some (.slice y.A y.n y.c) ∧ W.cell? ⟨bA, oA + q * 5 + 4, none⟩ = some (.int .i64 y.at_) := fun W hW => by
            have h2 := HR.out.1.below.onto hW
            exact ⟨(HR.out.1.box.below hW HR.out.1.box.lt).cell 0, hx1 W (.of_below h2 (Nat.le_refl _)), hyc W (.of_below h2 (Nat.le_refl _))⟩
          have HST : Hid (∀ W, Below wr.heap.size wr W → _) := Lib.hid hst
          clear hyc hy hqn hyI hlo h0 h1 hst hx1
          by_cases hop : y.op = 2
          · have t0 : (y.op != 2) = false := by rw [hop]; rfl
            have HOP := Lib.hid hop
            clear hop
            go_wp2_with fail
            go_quiet (fail)
            have HR1 := Lib.hid (HR.out.1.drewN nq).drew
            have HST1 : Hid (∀ W, Below (wr.drewN nq).drew.heap.size (wr.drewN nq).drew W → _) := Lib.hid fun W hW => HST.out W (Below.undrewN (Below.undrew hW))
            have hS := HST1.out _ (Below.refl _ _)
            clear c0 c1 c4 c5 c6 c7 c8
            go_upto_region 9 with fail
            refine wp_region_T (S := fun w' => w'.cell? ⟨w.heap.size, 0, none⟩ = some (.slice (some ⟨bA, oA, none⟩) n c) ∧ w'.cell? ⟨b, o + j, none⟩ = some (.int .i64 (q : Int)) ∧ w'.cell? ⟨bA, oA + q * 5, none⟩ = some (.int .i64 y.op) ∧ w'.cell? ⟨bA, oA + q * 5 + 1, none⟩ = some (.int .i64 y.out) ∧ w'.cell? ⟨bA, oA + q * 5 + 2, none⟩ = some (.int .i64 y.arg) ∧ w'.cell? ⟨bA, oA + q * 5 + 3, none⟩ = some (.slice y.A y.n y.c) ∧ w'.cell? ⟨bA, oA + q * 5 + 4, none⟩ = some (.int .i64 y.at_)) (t := 9) (by kernel_rfl) ?_
            generalize (wr.drewN nq).drew = V1 at HR1 HST1 hS ⊢
            refine wpAnyT_take (i := 0) (v := ?_) rfl (by kernel_rfl) (by kernel_rfl) (by kernel_rfl) (fun _ _ _ h => h) (by kernel_rfl) (Or.inl ⟨by rfl, ?_⟩) hS ?_
            rotate_left
            · (intro w _; go_simp; try with_reducible rfl)
            try simp only [List.getElem_toArray, List.getElem_cons_zero, Act.put, List.setIfInBounds_toArray, List.set_cons_zero, List.set_cons_succ]
            refine wpAnyT_take (i := 1) (v := ?_) rfl (by kernel_rfl) (by kernel_rfl) (by kernel_rfl) (fun _ _ _ h => h) (by kernel_rfl) (Or.inl ⟨by rfl, ?_⟩) hS ?_
            rotate_left
            · (intro w hS; obtain ⟨s1, s2, s3, s4, s5, s6, s7⟩ := hS; go_simp; try with_reducible rfl)
            try simp only [List.getElem_toArray, List.getElem_cons_succ, List.getElem_cons_zero, Act.put, List.setIfInBounds_toArray, List.set_cons_zero, List.set_cons_succ]
            refine wpAnyT_take (i := 2) (v := ?_) rfl (by kernel_rfl) (by kernel_rfl) (by kernel_rfl) (fun _ _ _ h => h) (by kernel_rfl) (Or.inl ⟨by rfl, ?_⟩) hS ?_
            rotate_left
            · (intro w _; go_simp; try with_reducible rfl)
            try simp only [List.getElem_toArray, List.getElem_cons_succ, List.getElem_cons_zero, Act.put, List.setIfInBounds_toArray, List.set_cons_zero, List.set_cons_succ]
            refine wpAnyT_take (i := 3) (v := ?_) rfl (by kernel_rfl) (by kernel_rfl) (by kernel_rfl) (fun _ _ _ h => h) (by kernel_rfl) (Or.inl ⟨by rfl, ?_⟩) hS ?_
            rotate_left
            · (intro w _; go_simp; try with_reducible rfl)
            try simp only [List.getElem_toArray, List.getElem_cons_succ, List.getElem_cons_zero, Act.put, List.setIfInBounds_toArray, List.set_cons_zero, List.set_cons_succ]
            refine wpAnyT_take (i := 4) (v := ?_) rfl (by kernel_rfl) (by kernel_rfl) (by kernel_rfl) (fun _ _ _ h => h) (by kernel_rfl) (Or.inl ⟨by rfl, ?_⟩) hS ?_
            rotate_left
            · (intro w _; go_simp; try with_reducible rfl)
            try simp only [List.getElem_toArray, List.getElem_cons_succ, List.getElem_cons_zero, Act.put, List.setIfInBounds_toArray, List.set_cons_zero, List.set_cons_succ]
            refine wpAnyT_take (i := 5) (v := ?_) rfl (by kernel_rfl) (by kernel_rfl) (by kernel_rfl) (fun _ _ _ h => h) (by kernel_rfl) (Or.inl ⟨by rfl, ?_⟩) hS ?_
            rotate_left
            · (intro w hS; obtain ⟨s1, s2, s3, s4, s5, s6, s7⟩ := hS; go_simp; try with_reducible rfl)
            try simp only [List.getElem_toArray, List.getElem_cons_succ, List.getElem_cons_zero, Act.put, List.setIfInBounds_toArray, List.set_cons_zero, List.set_cons_succ]
            refine wpAnyT_take (i := 6) (v := ?_) rfl (by kernel_rfl) (by kernel_rfl) (by kernel_rfl) (fun _ _ _ h => h) (by kernel_rfl) (Or.inl ⟨by rfl, ?_⟩) hS ?_
            rotate_left
            · (intro w _; go_simp; try with_reducible rfl)
            try simp only [List.getElem_toArray, List.getElem_cons_succ, List.getElem_cons_zero, Act.put, List.setIfInBounds_toArray, List.set_cons_zero, List.set_cons_succ]
            refine wpAnyT_take (i := 7) (v := ?_) rfl (by kernel_rfl) (by kernel_rfl) (by kernel_rfl) (fun _ _ _ h => h) (by kernel_rfl) (Or.inl ⟨by rfl, ?_⟩) hS ?_
            rotate_left
            · (intro w hS; obtain ⟨s1, s2, s3, s4, s5, s6, s7⟩ := hS; go_simp; try with_reducible rfl)
            try simp only [List.getElem_toArray, List.getElem_cons_succ, List.getElem_cons_zero, Act.put, List.setIfInBounds_toArray, List.set_cons_zero, List.set_cons_succ]
            refine wpAnyT_one (i := 8) (by kernel_rfl) rfl (fun K hK => ?_)
            go_simp
            replace hS := HST1.out (V1.alloc (.cells #[.int .i64 0, .int .i64 0, .int .i64 0, .slice none 0 0, .int .i64 0] 60)) ((Below.refl _ _).alloc (Nat.le_refl _) _)
            refine hK _ _ (Or.inr hS) ?_
            clear hK K
            try simp only [Array.getInternal_eq_getElem, List.getElem_toArray, List.getElem_cons_succ, List.getElem_cons_zero, Act.put, List.setIfInBounds_toArray, List.set_cons_zero, List.set_cons_succ]
            refine wpAnyT_one (i := 9) (by kernel_rfl) rfl (fun K hK => ?_)
            go_simp
            refine hK _ _ (Or.inl rfl) ?_
            clear hK K
            try simp only [Array.getInternal_eq_getElem, List.getElem_toArray, List.getElem_cons_succ, List.getElem_cons_zero, Act.put, List.setIfInBounds_toArray, List.set_cons_zero, List.set_cons_succ]
            refine wpAnyT_done (by kernel_rfl) ?_ _
            have hbx := Blk.new V1 60 #[.int .i64 y.op, .int .i64 y.out, .int .i64 y.arg, .slice y.A y.n y.c, .int .i64 y.at_]
            have d1 := hbx.cell 1
            have d3 := hbx.cell 3
            simp only [List.getElem?_toArray, List.getElem?_cons_zero, List.getElem?_cons_succ] at d1 d3
            have HBX := Lib.hid hbx
            have HM2 := Lib.hid (HR1.out.alloc (.cells #[.int .i64 y.op, .int .i64 y.out, .int .i64 y.arg, .slice y.A y.n y.c, .int .i64 y.at_] 60))
            clear hbx hS HST1 HST
            generalize V1.alloc (.cells #[.int .i64 y.op, .int .i64 y.out, .int .i64 y.arg, .slice y.A y.n y.c, .int .i64 y.at_] 60) = W2 at d1 d3 HBX HM2 ⊢
            generalize V1.heap.size = gx at d1 d3 HBX ⊢
            have ho := HLO.out (.inl HOP.out)
            obtain ⟨k, hk⟩ : ∃ k : Nat, y.out = (k : Int) := ⟨y.out.toNat, by omega⟩
            have hkn : k < n := by omega
            have hki : (k : Int) < (n : Int) := by omega
            rw [hk] at d1
            have hsl := HR.out.2.1
            have hsk : s.seen[k]? = some (s.seen[k]'(by omega)) := List.getElem?_eq_getElem _
            have HK := Lib.hid hk
            have hcall := refHas_any (HYI.out.below HM2.out.below) r
            cases hh : hasB y.set r with
            | false =>
              rw [hh] at hcall
              have HN := HSAME (nextS_no HY.out fun h => by rw [hh] at h; cases h.2.2)
              clear HSAME hk hsl hsk ho hkn hh
              go_wp2_with fail
              refine hcall.mono ?_
              rintro e W5 ⟨rfl, rfl⟩
              clear hcall
              go_wp2_with fail
              go_roundg (m + 1 - (j + 1))
              case measure => have := HG.out; have := HLT.out; omega
              case rel => exact ⟨j + 1, oc, O, s, rfl, by have := HLT.out; omega, by go_num, rfl, Lib.hid ⟨HM2.out, HR.out.2.1, HR.out.2.2.1, HN.out⟩⟩
            | true =>
              rw [hh] at hcall
              have HH := Lib.hid hh
              cases hbk : s.seen[k]'(by omega) with
              | true =>
                rw [hbk] at hsk
                have g1 := HM2.out.seenAt hsk
                have HN := HSAME (nextS_no HY.out fun h => by have := h.2.1; rw [HK.out, Int.toNat_natCast, hsk] at this; cases this)
                clear HSAME hk hsl hbk hsk ho hkn hh
                go_wp2_with fail
                refine hcall.mono ?_
                rintro e W5 ⟨rfl, rfl⟩
                clear hcall
                go_wp2_with fail
                go_roundg (m + 1 - (j + 1))
                case measure => have := HG.out; have := HLT.out; omega
                case rel => exact ⟨j + 1, oc, O, s, rfl, by have := HLT.out; omega, by go_num, rfl, Lib.hid ⟨HM2.out, HR.out.2.1, HR.out.2.2.1, HN.out⟩⟩
              | false =>
                rw [hbk] at hsk
                have g1 := HM2.out.seenAt hsk
                have HSK := Lib.hid hsk
                have hos : s.out.length ≤ 10000 := by have := HR.out.2.2.1; omega
                have f5 := HM2.out.seenB.frozen k
                clear HSAME hk hsl hbk hsk ho hkn hh
                go_wp2_with fail
                refine hcall.mono ?_
                rintro e W5 ⟨rfl, rfl⟩
                clear hcall
                have HM6 := Lib.hid (HM2.out.setSeen k)
                have hne : gx ≠ gs := Blk.ne HBX.out HM2.out.seenB (by decide)
                have hb6x := HBX.out.far (p := ⟨gs, k, none⟩) hne (.bool true)
                have d6 := hb6x.cell 1
                simp only [List.getElem?_toArray, List.getElem?_cons_zero, List.getElem?_cons_succ] at d6
                rw [HK.out] at d6
                clear hb6x hne
                go_upto_region 13 with fail
                generalize W2.setCell ⟨gs, k, none⟩ (.bool true) = W6 at HM6 d6 ⊢
                clear d1 f5 g1
                go_wp2_with (at_builtin; refine wpList_app _ rfl _ _ 42 rfl w.heap.size 3 elI (.slice O s.out.length oc) _ _ rfl (HM6.out.own.alloc _) 0 (W6.heap.size + 1) _ 1 1 [.int .i64 (k : Int)] rfl (fun h => by cases h) rfl (Rd.new W6 _ _ _ (Nat.zero_le _) (by omega)) (by simp [Value.oneCell']) (by unfold maxLen; omega) (by omega) (by have := HM6.out.below.size; simp; omega) ?_; intro v' W7 hO hg hb _; obtain ⟨O3, oc3, rfl, hM3⟩ := (HM6.out.alloc _).putOut hO hg hb; have HM3 := Lib.hid hM3; clear hO hg hb hM3)
                have hst : nextS L r s (q : Int) = ⟨s.seen.set k true, s.out ++ [(k : Int)], s.mt⟩ := by rw [nextS_yes HY.out ⟨HOP.out, by rw [HK.out, Int.toNat_natCast]; exact HSK.out, HH.out⟩, HK.out, Int.toNat_natCast]
                have hnum := nextS_num (L := L) (c := r) (s := s) (pc := (q : Int))
                rw [hst] at hnum
                go_roundg (m + 1 - (j + 1))
                case measure => have := HG.out; have := HLT.out; omega
                case rel => exact ⟨j + 1, oc3, O3, ⟨s.seen.set k true, s.out ++ [(k : Int)], s.mt⟩, rfl, by have := HLT.out; omega, by go_num, by simp, Lib.hid ⟨HM3.out, hnum.1.trans HR.out.2.1, Nat.le_trans hnum.2 HR.out.2.2.1, by rw [nextL_take HX.out, ← HR.out.2.2.2, hst]⟩⟩
          · have t0 : (y.op != 2) = true := bne_iff_ne.2 hop
            have HN := HSAME (nextS_no HY.out fun h => hop h.1)
            clear HSAME hop
            go_wp2_with fail
            go_quiet (fail)
            go_wp2_with fail
            go_roundg (m + 1 - (j + 1))
            case measure => have := HG.out; have := HLT.out; omega
            case rel => exact ⟨j + 1, oc, O, s, rfl, by have := HLT.out; omega, by go_num, rfl, Lib.hid ⟨HR.out.1.drewN _, HR.out.2.1, HR.out.2.2.1, HN.out⟩⟩
        · have d0 : decide (x < 0) = false := decide_eq_false (by omega)
          have d1 : decide ((n : Int) ≤ x) = true := decide_eq_true (by omega)
          have HN := HSAME (nextS_hi (by rw [HA.out.len]; exact h1))
          clear HSAME h0 h1
          go_wp2_with fail
          go_region
          go_wp2_with fail
          go_roundg (m + 1 - (j + 1))
          case measure => have := HG.out; have := HLT.out; omega
          case rel => exact ⟨j + 1, oc, O, s, rfl, by have := HLT.out; omega, by go_num, rfl, Lib.hid ⟨HR.out.1.drew, HR.out.2.1, HR.out.2.2.1, HN.out⟩⟩
      · have d0 : decide (x < 0) = true := decide_eq_true (by omega)
        have HN := HSAME (nextS_lo h0)
        clear HSAME h0
        go_wp2_with fail
        go_region
        go_wp2_with fail
        go_roundg (m + 1 - (j + 1))
        case measure => have := HG.out; have := HLT.out; omega
        case rel => exact ⟨j + 1, oc, O, s, rfl, by have := HLT.out; omega, by go_num, rfl, Lib.hid ⟨HR.out.1.drew, HR.out.2.1, HR.out.2.2.1, HN.out⟩⟩
    · have hi : ¬ (j : Int) < (m : Int) := by omega
      have hjm : j = m := by have := HJ.out; omega
      have HF : Hid (s = nextL L r l (CS.start n)) := Lib.hid (by have := HR.out.2.2.2; rw [hjm, ← HI.out.len, List.take_length] at this; exact this)
      clear hlt hjm
      go_wp2_with fail
      go_ret
      exact ⟨HR.out.1.below, .inr ⟨HYES.out, O, oc, by rw [← HF.out]; rfl, by rw [← HF.out]; exact HR.out.1.own⟩⟩
end Go.Proofs.Ytbhcgjahlfpjoaa
