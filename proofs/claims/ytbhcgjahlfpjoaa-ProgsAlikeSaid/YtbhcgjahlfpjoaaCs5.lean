/- The program's classes. -/
import Derived.Test.YtbhcgjahlfpjoaaCs1
import Derived.Test.YtbhcgjahlfpjoaaSr9
import Derived.Test.YtbhcgjahlfpjoaaCs4
namespace Go.Proofs.Ytbhcgjahlfpjoaa
open Go.RowKit

theorem ends_in {s : List Rg} (h : ∀ p ∈ s, 0 ≤ p.1 ∧ p.1 ≤ p.2 ∧ p.2 ≤ 1114111) : ∀ v ∈ ends s, v ≤ 1114112 := by
  intro v hv
  obtain ⟨p, hp, hv⟩ := List.mem_flatMap.1 hv
  obtain ⟨h1, h2, h3⟩ := h p hp
  rcases List.mem_cons.1 hv with rfl | hv
  · omega
  · obtain rfl := List.mem_singleton.1 hv
    omega
theorem pts_in {L : List MI} (h : SetsIn L) : ∀ v ∈ base11 ++ pts L, v ≤ 1114112 := by
  intro v hv
  rcases List.mem_append.1 hv with hv | hv
  · have h5 : ∀ v ∈ base11, v ≤ 1114112 := by decide
    exact h5 v hv
  · obtain ⟨x, hx, hv⟩ := List.mem_flatMap.1 hv
    exact ends_in (h x hx) v hv
/-- The rising list without what is no rune. -/
theorem gst_keep {xs r : List Int} {z : Int} (h1 : r.Pairwise (· < ·)) (h2 : ∀ v, v ∈ r ↔ v ∈ xs) (hz : r[r.length - 1]? = some z) (hm : z ≤ 1114111) : GSt xs r := by
  refine ⟨h1, fun v => ⟨fun hv => ⟨(h2 v).1 hv, ?_⟩, fun hv => (h2 v).2 hv.1⟩⟩
  obtain ⟨i, hi, rfl⟩ := List.getElem_of_mem hv
  obtain ⟨q, hq⟩ := List.getElem?_eq_some_iff.1 hz
  rcases Nat.lt_or_ge i (r.length - 1) with h | h
  · have := List.pairwise_iff_getElem.1 h1 i (r.length - 1) hi q h; omega
  · have e : i = r.length - 1 := by omega
    subst e; omega
theorem gst_cut {xs r : List Int} {z : Int} (h1 : r.Pairwise (· < ·)) (h2 : ∀ v, v ∈ r ↔ v ∈ xs) (hi : ∀ v ∈ xs, v ≤ 1114112) (hz : r[r.length - 1]? = some z) (hm : 1114111 < z) : GSt xs (r.take (r.length - 1)) := by
  obtain ⟨q, hq⟩ := List.getElem?_eq_some_iff.1 hz
  have hz2 := hi z ((h2 z).1 (hq ▸ List.getElem_mem q))
  refine ⟨h1.sublist (List.take_sublist _ _), fun v => ⟨fun hv => ⟨(h2 v).1 (List.mem_of_mem_take hv), ?_⟩, fun hv => ?_⟩⟩
  · obtain ⟨i, hi, rfl⟩ := List.getElem_of_mem hv
    rw [List.length_take] at hi
    rw [List.getElem_take]
    have := List.pairwise_iff_getElem.1 h1 i (r.length - 1) (by omega) q (by omega); omega
  · obtain ⟨i, hi, rfl⟩ := List.getElem_of_mem ((h2 v).2 hv.1)
    have : i < r.length - 1 := by
      rcases Nat.lt_or_ge i (r.length - 1) with h | h
      · exact h
      · have e : i = r.length - 1 := by omega
        subst e; have := hv.2; omega
    rw [List.mem_take_iff_getElem]
    exact ⟨i, by omega, rfl⟩

set_option maxRecDepth 20000 in
set_option maxHeartbeats 1000000 in
theorem classes_bad {w : World} {A : Option Addr} {n c : Nat} {st cp : Int} {L : List MI} (hA : PgIn w A n c L) (hs : ∀ x ∈ L, x.n ≤ 2000) (hno : ¬ PgOK n st cp L) :
    Calls Try.prog 47 #[.agg #[.slice A n c, .int .i64 st, .int .i64 cp]] w (ClsB n st cp L w) := by
  have hb : Below w.heap.size w (w.alloc (.cells #[.slice A n c, .int .i64 st, .int .i64 cp] 38)) := (Below.refl _ _).alloc (Nat.le_refl _) _
  have hcon := pcheck_any (hA.below hb) (st := st) (cp := cp) (fun x hx => Nat.le_trans (hs x hx) (by decide))
  have HB := Lib.hid hb
  have HNO := Lib.hid hno
  clear hA hb hno
  go_enter Try.func47, Try.ntmps47
  go_wp2_with fail
  refine hcon.mono ?_
  rintro e w2 ⟨v, rfl, hv, hb2⟩
  obtain ⟨rfl⟩ : v = 121 := by
    rcases hv with ⟨_, h⟩ | ⟨h, _⟩
    · exact absurd h HNO.out
    · exact h
  have HB2 := Lib.hid (HB.out.trans (hb2.mono HB.out.size))
  clear hcon hb2 hv
  go_wp2_with fail
  go_ret
  exact ⟨HB2.out, none, 0, 0, [], rfl, RnIn.empty _, .inl ⟨HNO.out, rfl⟩⟩

set_option maxRecDepth 20000 in
set_option maxHeartbeats 2000000 in
theorem classes_yes {w : World} {A : Option Addr} {n c : Nat} {st cp : Int} {L : List MI} (hA : PgIn w A n c L) (hs : ∀ x ∈ L, x.n ≤ 2000) (hn2 : n ≤ 2000) (hyes : PgOK n st cp L) :
    Calls Try.prog 47 #[.agg #[.slice A n c, .int .i64 st, .int .i64 cp]] w (ClsB n st cp L w) := by
  have hb : Below w.heap.size w (w.alloc (.cells #[.slice A n c, .int .i64 st, .int .i64 cp] 38)) := (Below.refl _ _).alloc (Nat.le_refl _) _
  have hB := Blk.new w 38 #[.slice A n c, .int .i64 st, .int .i64 cp]
  have hcon := pcheck_any (hA.below hb) (st := st) (cp := cp) (fun x hx => Nat.le_trans (hs x hx) (by decide))
  have HIN := Lib.hid (setsIn hA hyes)
  have hn1 : (n : Int) ≤ 2000 := by omega
  have HB := Lib.hid hb
  have HBK := Lib.hid hB
  have HYES := Lib.hid hyes
  have HA := Lib.hid hA
  have HSM := Lib.hid hs
  clear hA hs hb hyes hB
  go_enter Try.func47, Try.ntmps47
  go_wp2_with fail
  refine hcon.mono ?_
  rintro e w2 ⟨v, rfl, hv, hb2⟩
  obtain ⟨rfl⟩ : v = 0 := by
    rcases hv with ⟨h, _⟩ | ⟨_, h⟩
    · exact h
    · exact absurd HYES.out h
  have HB3 := Lib.hid (HB.out.trans (hb2.mono HB.out.size))
  have hB3 := HBK.out.below hb2 HBK.out.lt
  obtain ⟨gp, hgp⟩ : ∃ gp, gp = w.heap.size := ⟨_, rfl⟩
  have HGP := Lib.hid hgp
  rw [← hgp] at hB3 HB3 ⊢
  clear hgp
  have hB4 := hB3.alloc (.cells (i32s base11).toArray 21)
  have c0 := hB4.cell 0
  simp only [List.getElem?_toArray, List.getElem?_cons_zero, i32s, base11, List.map_cons, List.map_nil] at c0
  have hgz : gp ≤ w2.heap.size := Nat.le_trans (Nat.le_of_eq HGP.out) HB3.out.size
  have ho : (w2.alloc (.cells (i32s base11).toArray 21)).ownsRow gp 21 1 (.slice (some ⟨w2.heap.size, 0, none⟩) 11 11) 11 (i32s base11) :=
    World.ownsRow_lit (base := gp) (size := 1) (e := 21) w2 (i32s base11).toArray 11 hgz (by unfold maxLen; omega) (by decide)
  have h0 : Below gp w (w2.alloc (.cells (i32s base11).toArray 21)) := HB3.out.alloc hgz _
  have HO := Lib.hid (And.intro h0 ho)
  simp only [i32s, base11, List.map_cons, List.map_nil] at HO
  clear hcon hb2 hv HBK HB hB3 hB4 h0 ho
  go_wp2_with fail
  go_loopg [3, 15] (n + 1) (fun q lv i W => ∃ (j m d : Nat) (B : Option Addr) (l : List Int), q = n + 1 - j ∧ j ≤ n ∧ i = .int .i64 (j : Int) ∧ lv = .slice B m d ∧
    Hid (Below gp w W ∧ W.ownsRow gp 21 1 (.slice B m d) m (i32s l) ∧ l = base11 ++ pts (L.take j) ∧ m ≤ 11 + 4000 * j))
  case atStart => exact ⟨0, 11, 11, _, base11, rfl, Nat.zero_le _, rfl, rfl, Lib.hid ⟨HO.out.1, HO.out.2, by simp [pts], by omega⟩⟩
  case round =>
    obtain ⟨j, m, d, B, l, hgk, hj, rfl, rfl, HR⟩ := hrel
    have HG := Lib.hid hgk
    have HJ := Lib.hid hj
    clear hgk hj c0
    by_cases hlt : j < n
    · have hi : (j : Int) < (n : Int) := by omega
      obtain ⟨bA, oA, x, hAe, _, hx, hxI, hxc⟩ := HA.out.at hlt
      obtain ⟨c4, c5, c6, c7, c8⟩ := hxc wr (.of_below HR.out.1 (Nat.le_of_eq HGP.out.symm))
      have hxn := HSM.out x (List.mem_of_getElem? hx)
      have hxi := HIN.out x (List.mem_of_getElem? hx)
      have HX := Lib.hid hx
      have HXI := Lib.hid hxI
      have HIX := Lib.hid hxi
      have HLT := Lib.hid hlt
      subst hAe
      clear hx hxI hxc hxi hlt HO
      go_upto_region 7 with fail
      have hgz2 : gp ≤ wr.heap.size := Nat.le_trans (Nat.le_of_eq HGP.out) HR.out.1.size
      have hbx := Blk.new wr 60 #[.int .i64 x.op, .int .i64 x.out, .int .i64 x.arg, .slice x.A x.n x.c, .int .i64 x.at_]
      have d3 := hbx.cell 3
      simp only [List.getElem?_toArray, List.getElem?_cons_zero, List.getElem?_cons_succ] at d3
      have HR2 := Lib.hid (And.intro (HR.out.1.alloc hgz2 (.cells #[.int .i64 x.op, .int .i64 x.out, .int .i64 x.arg, .slice x.A x.n x.c, .int .i64 x.at_] 60)) (And.intro (HR.out.2.1.alloc (.cells #[.int .i64 x.op, .int .i64 x.out, .int .i64 x.arg, .slice x.A x.n x.c, .int .i64 x.at_] 60)) (And.intro HR.out.2.2.1 HR.out.2.2.2)))
      clear hbx c4 c5 c6 c7 c8 HR
      generalize wr.alloc (.cells #[.int .i64 x.op, .int .i64 x.out, .int .i64 x.arg, .slice x.A x.n x.c, .int .i64 x.at_] 60) = W2 at d3 HR2 ⊢
      generalize wr.heap.size = gx at d3 hgz2 ⊢
      have hxn1 : (x.n : Int) ≤ 2000 := by omega
      go_upto_region 8 with fail
      clear d3
      go_loopg [3, 22] (x.n + 1) (fun q lv i V => ∃ (k m d : Nat) (B : Option Addr) (l : List Int), q = x.n + 1 - k ∧ k ≤ x.n ∧ i = .int .i64 (k : Int) ∧ lv = .slice B m d ∧
        Hid (Below gp w V ∧ V.ownsRow gp 21 1 (.slice B m d) m (i32s l) ∧ l = base11 ++ pts (L.take j) ++ ends (x.set.take k) ∧ m ≤ 11 + 4000 * j + 2 * k))
      case atStart => exact ⟨0, m, d, B, l, rfl, Nat.zero_le _, rfl, rfl, Lib.hid ⟨HR2.out.1, HR2.out.2.1, by simpa [ends] using HR2.out.2.2.1, by have := HR2.out.2.2.2; omega⟩⟩
      case round =>
        clear HR2
        obtain ⟨k, m, d, B, l, hgk, hk, rfl, rfl, HR⟩ := hrel
        have hgz3 : gp ≤ wr.heap.size := Nat.le_trans (Nat.le_of_eq HGP.out) HR.out.1.size
        have HG2 := Lib.hid hgk
        have HK := Lib.hid hk
        clear hgk hk
        by_cases hlk : k < x.n
        · have hki : (k : Int) < (x.n : Int) := by omega
          obtain ⟨b, o, p, hpe, _, hp, hpc, _, _⟩ := HXI.out.at hlk
          obtain ⟨p1, p2⟩ := hpc wr (.of_below HR.out.1 (Nat.le_of_eq HGP.out.symm))
          obtain ⟨q1, q2, q3⟩ := HIX.out p (List.mem_of_getElem? hp)
          have hm : m ≤ 9000000 := by have := HR.out.2.2.2; have := HJ.out; have := HK.out; omega
          have HP := Lib.hid hp
          have HLK := Lib.hid hlk
          have hw : IntKind.i32.wrap (p.2 + 1) = p.2 + 1 := IntWalk.i32_in _ (by omega)
          rw [hpe]
          clear hp hpc hlk
          go_upto_region 10 with fail
          have hbx := Blk.new wr 71 #[.int .i32 p.1, .int .i32 p.2]
          have d0 := hbx.cell 0
          have d1 := hbx.cell 1
          simp only [List.getElem?_toArray, List.getElem?_cons_zero, List.getElem?_cons_succ] at d0 d1
          have HV := Lib.hid (HR.out.1.alloc hgz3 (.cells #[.int .i32 p.1, .int .i32 p.2] 71))
          have hown := HR.out.2.1.alloc (.cells #[.int .i32 p.1, .int .i32 p.2] 71)
          have hz : gp ≤ (wr.alloc (.cells #[.int .i32 p.1, .int .i32 p.2] 71)).heap.size := by simp; omega
          clear hbx p1 p2
          generalize wr.alloc (.cells #[.int .i32 p.1, .int .i32 p.2] 71) = W3 at d0 d1 HV hown hz ⊢
          generalize wr.heap.size = gy at d0 d1 hgz3 ⊢
          go_wp2_with (at_builtin; refine wpList_app _ rfl _ _ 52 rfl gp 21 elRn _ _ _ rfl (hown.alloc _) 0 (W3.heap.size + 1) _ 2 2 [.int .i32 p.1, .int .i32 (p.2 + 1)] rfl (fun h => by cases h) rfl (Rd.new W3 _ _ _ (Nat.zero_le _) (by omega)) (by simp [Value.oneCell']) (by unfold maxLen; omega) (by omega) (by simp; omega) ?_; intro v4 W4 hv4 hg4 _ _; obtain ⟨B4, d4, rfl, _, _⟩ := own_form hv4; have hW4 := (HV.out.alloc hz _).grown hg4 (by simp; omega) (own_above hown); have HW4 := Lib.hid (And.intro hW4 hv4); clear hW4 hg4 hv4)
          have HN : Hid (i32s l ++ [.int .i32 p.1, .int .i32 (p.2 + 1)] = i32s (l ++ [p.1, p.2 + 1])) := Lib.hid (by simp [i32s])
          rw [← hpe]
          go_roundg (x.n + 1 - (k + 1))
          case measure => have := HG2.out; have := HLK.out; omega
          case rel => exact ⟨k + 1, m + 2, d4, B4, l ++ [p.1, p.2 + 1], rfl, by have := HLK.out; omega, by go_num, rfl, Lib.hid ⟨HW4.out.1, HN.out ▸ HW4.out.2, by rw [HR.out.2.2.1, ends_take HP.out]; simp, by have := HR.out.2.2.2; omega⟩⟩
        · have hki : ¬ (k : Int) < (x.n : Int) := by omega
          have hkn : k = x.n := by have := HK.out; omega
          have HN : Hid (l = base11 ++ pts (L.take (j + 1)) ∧ m ≤ 11 + 4000 * (j + 1)) := Lib.hid ⟨by
            have h5 := HR.out.2.2.1
            rw [hkn, ← HXI.out.len, List.take_length] at h5
            rw [pts_take HX.out, ← List.append_assoc]
            exact h5, by have := HR.out.2.2.2; omega⟩
          clear hlk hkn
          go_wp2_with fail
          go_roundg (n + 1 - (j + 1))
          case measure => have := HG.out; have := HLT.out; omega
          case rel => exact ⟨j + 1, m, d, B, l, rfl, by have := HLT.out; omega, by go_num, rfl, Lib.hid ⟨HR.out.1, HR.out.2.1, HN.out.1, HN.out.2⟩⟩
    · have hi : ¬ (j : Int) < (n : Int) := by omega
      have hjn : j = n := by have := HJ.out; omega
      have hl : l = base11 ++ pts L := by
        have h5 := HR.out.2.2.1
        rw [List.take_of_length_le (by rw [HA.out.len]; omega)] at h5
        exact h5
      have hml : l.length = m := by have := HR.out.2.1.1; rw [i32s_length] at this; omega
      have h0l : 11 ≤ l.length := by rw [hl]; simp [base11]
      have hm1 : m ≤ 9000000 := by have := HR.out.2.2.2; omega
      have hmp : 0 < m := by omega
      have hsort := sortR_any HR.out.2.1 hmp (by omega)
      have HL := Lib.hid hl
      have HML := Lib.hid hml
      clear hlt hjn hl hml h0l HO
      go_wp2_with fail
      refine hsort.mono ?_
      rintro e V1 ⟨rfl, r, hpm, hsr, ho1, hg1⟩
      have hgz4 : gp ≤ wr.heap.size := Nat.le_trans (Nat.le_of_eq HGP.out) HR.out.1.size
      have hV1 := HR.out.1.grown hg1 hgz4 (own_above HR.out.2.1)
      have hcp := compactR_any ho1 hmp (by omega) hsr
      have HV1 := Lib.hid (And.intro hV1 (And.intro hpm ho1))
      clear hsort hg1 hV1 hpm ho1 hsr
      go_wp2_with fail
      refine hcp.mono ?_
      rintro e V2 ⟨r2, rfl, hr2, hmem, ho2, hg2⟩
      have hV2 := HV1.out.1.grown hg2 (Nat.le_trans (Nat.le_of_eq HGP.out) HV1.out.1.size) (own_above HV1.out.2.2)
      have hmem2 : ∀ v, v ∈ r2 ↔ v ∈ base11 ++ pts L := fun v => by rw [hmem, ← HL.out]; exact HV1.out.2.1.symm.mem_iff
      have hrp : 0 < r2.length := by
        rcases Nat.eq_zero_or_pos r2.length with h | h
        · have h5 := (hmem2 0).2 (by simp [base11])
          rw [List.eq_nil_of_length_eq_zero h] at h5; cases h5
        · exact h
      have hR2 := RnIn.of_own ho2 rfl
      obtain ⟨b2, o2, z, hBe, _, hz, hzc⟩ := hR2.at (k := r2.length - 1) (by omega)
      have c9 := hzc V2 (Same.refl _ _ _)
      have hrl := hR2.le
      have hrx := hR2.max
      unfold maxLen at hrx
      have hrc : (r2.length : Int) ≤ (d : Int) := by omega
      have hdd : (d : Int) ≤ 9223372036854775807 := by omega
      have hwr : IntKind.i64.wrap ((r2.length : Int) - 1) = (r2.length : Int) - 1 := IntWalk.i64_in _ (by omega)
      have hw0 : (0 : Int) ≤ (r2.length : Int) - 1 := by omega
      have hw1 : (r2.length : Int) - 1 < (r2.length : Int) := by omega
      have hw2 : (r2.length : Int) - 1 ≤ (d : Int) := by omega
      have hwn : ((r2.length : Int) - 1).toNat = r2.length - 1 := by omega
      have HV2 := Lib.hid (And.intro hV2 hR2)
      by_cases hzm : 1114111 < z
      · have e0 : decide (1114111 < z) = true := decide_eq_true hzm
        have HN := Lib.hid (gst_cut hr2 hmem2 (pts_in HIN.out) hz hzm)
        have HF : Hid (RnIn V2 B (r2.length - 1) d (r2.take (r2.length - 1))) := Lib.hid ⟨by
            have := hR2.rd.take (r2.length - 1)
            simpa [i32s, List.map_take] using this, by simp, by omega, by unfold maxLen; omega, fun h => by rw [hBe] at h; cases h⟩
        subst hBe
        clear hcp hg2 hV2 hmem hmem2 hR2 hz hzc hr2 ho2 hzm
        go_wp2_with fail
        go_ret
        exact ⟨HGP.out ▸ HV2.out.1, _, r2.length - 1, d, _, by simp only [hwn]; rfl, HF.out, .inr ⟨HYES.out, HN.out⟩⟩
      · have e0 : decide (1114111 < z) = false := decide_eq_false hzm
        have HN := Lib.hid (gst_keep hr2 hmem2 hz (by omega))
        subst hBe
        clear hcp hg2 hV2 hmem hmem2 hR2 hz hzc hr2 ho2 hzm
        go_wp2_with fail
        go_ret
        exact ⟨HGP.out ▸ HV2.out.1, _, r2.length, d, r2, rfl, HV2.out.2, .inr ⟨HYES.out, HN.out⟩⟩
end Go.Proofs.Ytbhcgjahlfpjoaa
