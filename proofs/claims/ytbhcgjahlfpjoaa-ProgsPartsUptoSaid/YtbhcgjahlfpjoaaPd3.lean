/- ProgsTwice: the law's walk. -/
import Derived.Test.YtbhcgjahlfpjoaaPd1
import Derived.Test.YtbhcgjahlfpjoaaPd2
namespace Go.Proofs.Ytbhcgjahlfpjoaa
open Go.RowKit

theorem Tidy.start (L : List MI) (n : Nat) : Tidy L (CS.start n) := ⟨(fun pc h => by cases h), List.nodup_nil⟩
theorem twice_law {n : Nat} {st cp at_ : Int} {L : List MI} {l a b c : List Int} {is it also : Bool} (hlen : L.length = n) (ha : ClV n st cp at_ false L l a is) (hb : ClV n st cp at_ false L a b it) (hc : ClV n st cp at_ true L l c also) :
    it = false ∧ is = also ∧ a.length ≤ c.length ∧ (is = false → c.length = a.length) ∧ a = b ∧ a = c.take a.length := by
  rcases ha with ⟨hn, rfl, rfl⟩ | ⟨h1, h2, s, hs, rfl, rfl⟩
  · rcases hc with ⟨_, rfl, rfl⟩ | ⟨h1, h2, _⟩
    · rcases hb with ⟨_, rfl, rfl⟩ | ⟨_, _, t, ht, rfl, rfl⟩
      · exact ⟨rfl, rfl, Nat.le_refl _, fun _ => rfl, rfl, rfl⟩
      · cases ht
        exact ⟨rfl, rfl, Nat.le_refl _, fun _ => rfl, rfl, rfl⟩
    · exact absurd ⟨h1, h2⟩ hn
  · rcases hc with ⟨hn, _, _⟩ | ⟨_, _, t, ht, rfl, rfl⟩
    · exact absurd ⟨h1, h2⟩ hn
    · obtain ⟨k1, k2, k3⟩ := hs.longer ht
      have hL : Leads L := .of_ok h1 hlen
      have htd := hs.tidy hL (by rw [hlen]; exact h2) (Tidy.start L n)
      have hin : ∀ pc ∈ s.out, 0 ≤ pc ∧ pc < (n : Int) := fun pc hp => by
        obtain ⟨a, _, x, hx, _⟩ := htd.reads pc hp
        have := (List.getElem?_eq_some_iff.1 hx).1
        exact ⟨a, by omega⟩
      obtain ⟨e, he, heo, hem⟩ := Runs.again (T := AtT at_) (lng := false) s.out (CS.start n) (fun pc hp => by
        obtain ⟨a, _, c⟩ := htd.reads pc hp
        refine ⟨a, ?_, c⟩
        have := hin pc hp
        simp only [CS.start]
        rw [List.getElem?_replicate, if_pos (by omega)]) htd.once rfl
      rcases hb with ⟨hn, _, _⟩ | ⟨_, _, t2, ht2, rfl, rfl⟩
      · exact absurd ⟨h1, hin⟩ hn
      · obtain rfl := ht2.det he
        refine ⟨hem, k2, k1.length_le, fun h => by rw [k3 h], by rw [heo]; simp [CS.start], ?_⟩
        exact List.prefix_iff_eq_take.1 k1
theorem IlIn.take {w : World} {A : Option Addr} {n c : Nat} {l : List Int} (h : IlIn w A n c l) {k : Nat} (hk : k ≤ n) : IlIn w A k c (l.take k) := by
  refine ⟨?_, by rw [List.length_take, h.len]; omega, Nat.le_trans hk h.le, h.max, fun hA => by have := h.nil hA; omega⟩
  have := h.rd.take k
  rwa [show (i64s l).take k = i64s (l.take k) by simp [i64s, List.map_take]] at this

set_option maxRecDepth 20000 in
set_option maxHeartbeats 2000000 in
theorem progsTwice_walk {w : World} {A : Option Addr} {n c : Nat} {st cp : Int} {L : List MI} (hA : PgIn w A n c L) (hfit : n * 56 ≤ 140737488351232 ∧ ∀ x ∈ L, x.n * 8 ≤ 140737488351232) {B : Option Addr} {m d : Nat} {l : List Int} (hI : IlIn w B m d l) (_ : m * 8 ≤ 140737488351232) (at_ : Int) :
    Calls Try.prog 12 #[.agg #[.slice A n c, .int .i64 st, .int .i64 cp], .slice B m d, .int .i64 at_] w fun e w' => e = .returned (.bool true) ∧ Below w.heap.size w w' := by
  have hb : Below w.heap.size w (w.alloc (.cells #[.slice A n c, .int .i64 st, .int .i64 cp] 38)) := (Below.refl _ _).alloc (Nat.le_refl _) _
  have hB := Blk.new w 38 #[.slice A n c, .int .i64 st, .int .i64 cp]
  have HA := Lib.hid (hA.below hb)
  have HI := Lib.hid (hI.below hb)
  have HB := Lib.hid hb
  have HBK := Lib.hid hB
  have HF := Lib.hid hfit
  clear hA hfit hI hb hB
  go_enter Try.func12, Try.ntmps12
  go_wp2_with fail
  generalize w.alloc (.cells #[.slice A n c, .int .i64 st, .int .i64 cp] 38) = w0 at HA HI HB HBK ⊢
  refine (head12_any w0).mono ?_
  rintro e w1 ⟨rfl, hb1⟩
  replace HA := Lib.hid (HA.out.below hb1)
  replace HI := Lib.hid (HI.out.below hb1)
  replace HBK := Lib.hid (HBK.out.below hb1 HBK.out.lt)
  replace HB := Lib.hid (HB.out.trans (hb1.mono HB.out.size))
  clear hb1
  have d0 := HBK.out.cell 0
  have d1 := HBK.out.cell 1
  have d2 := HBK.out.cell 2
  simp only [List.getElem?_toArray, List.getElem?_cons_zero, List.getElem?_cons_succ] at d0 d1 d2
  have hlong := long_any (st := st) (cp := cp) HA.out (fun x hx => by have := HF.out.2 x hx; omega) (by have := HF.out.1; omega)
  go_wp2_with fail
  refine hlong.mono ?_
  rintro e w2 ⟨b, rfl, hbl, hb2⟩
  cases b with
  | true =>
    replace HB := Lib.hid (HB.out.trans (hb2.mono HB.out.size))
    clear hlong hbl hb2 d0 d1 d2
    go_wp2_with fail
    go_ret
    exact ⟨rfl, HB.out⟩
  | false =>
    have HSM := Lib.hid (show ∀ x ∈ L, x.n ≤ 1000000 from fun x hx => by have := (hbl rfl).2 x hx; omega)
    replace HA := Lib.hid (HA.out.below hb2)
    replace HI := Lib.hid (HI.out.below hb2)
    replace HBK := Lib.hid (HBK.out.below hb2 HBK.out.lt)
    replace HB := Lib.hid (HB.out.trans (hb2.mono HB.out.size))
    clear hlong hbl hb2 d0 d1 d2
    have d0 := HBK.out.cell 0
    have d1 := HBK.out.cell 1
    have d2 := HBK.out.cell 2
    simp only [List.getElem?_toArray, List.getElem?_cons_zero, List.getElem?_cons_succ] at d0 d1 d2
    have hcl := closure_any (st := st) (cp := cp) HA.out HSM.out HI.out at_ false
    go_wp2_with fail
    refine hcl.mono ?_
    rintro e w3 hc3
    obtain ⟨O1, n1, c1, xs, b1, rfl, hi3, hv3, hb3⟩ := hc3.val
    have HX := Lib.hid hi3
    have HV3 := Lib.hid hv3
    replace HA := Lib.hid (HA.out.below hb3)
    replace HI := Lib.hid (HI.out.below hb3)
    replace HBK := Lib.hid (HBK.out.below hb3 HBK.out.lt)
    replace HB := Lib.hid (HB.out.trans (hb3.mono HB.out.size))
    clear hcl hc3 hi3 hv3 hb3 d0 d1 d2
    have d0 := HBK.out.cell 0
    have d1 := HBK.out.cell 1
    have d2 := HBK.out.cell 2
    simp only [List.getElem?_toArray, List.getElem?_cons_zero, List.getElem?_cons_succ] at d0 d1 d2
    have hcl := closure_any (st := st) (cp := cp) HA.out HSM.out HX.out at_ false
    go_wp2_with fail
    refine hcl.mono ?_
    rintro e w4 hc4
    obtain ⟨O2, n2, c2, ys, b2, rfl, hi4, hv4, hb4⟩ := hc4.val
    have HY := Lib.hid hi4
    have HV4 := Lib.hid hv4
    replace HX := Lib.hid (HX.out.below hb4)
    replace HA := Lib.hid (HA.out.below hb4)
    replace HI := Lib.hid (HI.out.below hb4)
    replace HBK := Lib.hid (HBK.out.below hb4 HBK.out.lt)
    replace HB := Lib.hid (HB.out.trans (hb4.mono HB.out.size))
    clear hcl hc4 hi4 hv4 hb4 d0 d1 d2
    have d0 := HBK.out.cell 0
    have d1 := HBK.out.cell 1
    have d2 := HBK.out.cell 2
    simp only [List.getElem?_toArray, List.getElem?_cons_zero, List.getElem?_cons_succ] at d0 d1 d2
    have hcl := closure_any (st := st) (cp := cp) HA.out HSM.out HI.out at_ true
    go_wp2_with fail
    refine hcl.mono ?_
    rintro e w5 hc5
    obtain ⟨O3, n3, c3, zs, b3, rfl, hi5, hv5, hb5⟩ := hc5.val
    obtain ⟨rfl, rfl, t3, t4, t5, t6⟩ := twice_law HA.out.len HV3.out HV4.out hv5
    rw [HX.out.len, hi5.len] at t3
    rw [HX.out.len, hi5.len] at t4
    rw [HX.out.len] at t6
    have HZ := Lib.hid (hi5.take t3)
    have HT5 := Lib.hid t5
    have HT6 := Lib.hid t6
    have hcap := hi5.le
    replace HX := Lib.hid (HX.out.below hb5)
    replace HY := Lib.hid (HY.out.below hb5)
    replace HB := Lib.hid (HB.out.trans (hb5.mono HB.out.size))
    have hm3 := hi5.max
    unfold maxLen at hm3
    clear hcl hc5 hi5 hv5 hb5 d0 d1 d2 t5 t6
    have k0 : (b1 != b1) = false := by simp
    have k1 : decide ((n3 : Int) < (n1 : Int)) = false := decide_eq_false (by omega)
    have k2 : (n1 : Int) ≤ (c3 : Int) := by omega
    have k3 : (0 : Int) ≤ (n1 : Int) := by omega
    have k4 : n1 ≤ c3 := by omega
    have hs1 := sameI_any HX.out HY.out
    have hrest : ∀ W, Below w5.heap.size w5 W → Calls Try.prog 42 #[.slice O1 n1 c1, .slice O3 n1 c3] W (SameB xs (zs.take n1) W) := fun W hW => sameI_any (HX.out.below hW) (HZ.out.below hW)
    have HRST := Lib.hid hrest
    clear hrest
    cases b1 with
    | true =>
      clear t4
      go_wp2_with fail
      refine hs1.mono ?_
      rintro e w6 ⟨b6, rfl, hb6, hbw6⟩
      obtain rfl : b6 = true := hb6.2 HT5.out
      replace HB := Lib.hid (HB.out.trans (hbw6.mono HB.out.size))
      have hs2 := HRST.out w6 hbw6
      clear hs1 hb6 hbw6
      go_wp2_with fail
      refine hs2.mono ?_
      rintro e w7 ⟨b7, rfl, hb7, hbw7⟩
      obtain rfl : b7 = true := hb7.2 HT6.out
      replace HB := Lib.hid (HB.out.trans (hbw7.mono HB.out.size))
      clear hs2 hb7 hbw7
      go_wp2_with fail
      go_ret
      exact ⟨rfl, HB.out⟩
    | false =>
      have k5 : ((n3 : Int) != (n1 : Int)) = false := by rw [t4 rfl]; simp
      clear t4
      go_wp2_with fail
      refine hs1.mono ?_
      rintro e w6 ⟨b6, rfl, hb6, hbw6⟩
      obtain rfl : b6 = true := hb6.2 HT5.out
      replace HB := Lib.hid (HB.out.trans (hbw6.mono HB.out.size))
      have hs2 := HRST.out w6 hbw6
      clear hs1 hb6 hbw6
      go_wp2_with fail
      refine hs2.mono ?_
      rintro e w7 ⟨b7, rfl, hb7, hbw7⟩
      obtain rfl : b7 = true := hb7.2 HT6.out
      replace HB := Lib.hid (HB.out.trans (hbw7.mono HB.out.size))
      clear hs2 hb7 hbw7
      go_wp2_with fail
      go_ret
      exact ⟨rfl, HB.out⟩
end Go.Proofs.Ytbhcgjahlfpjoaa
