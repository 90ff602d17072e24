/- ProgsClosure: the law's walk. -/
import Derived.Test.YtbhcgjahlfpjoaaPc9
namespace Go.Proofs.Ytbhcgjahlfpjoaa
open Go.RowKit

/-- Which list and which word a Closure tells. -/
def ClV (n : Nat) (st cp at_ : Int) (lng : Bool) (L : List MI) (l : List Int) (xs : List Int) (b : Bool) : Prop :=
  (¬ (PgOK n st cp L ∧ InL n l) ∧ xs = [] ∧ b = false) ∨ (PgOK n st cp L ∧ InL n l ∧ ∃ s : CS, Runs L (AtT at_) lng l (CS.start n) s ∧ xs = s.out ∧ b = s.mt)
theorem ClV.det {n : Nat} {st cp at_ : Int} {lng : Bool} {L : List MI} {l xs ys : List Int} {b c : Bool} (h : ClV n st cp at_ lng L l xs b) (h2 : ClV n st cp at_ lng L l ys c) : xs = ys ∧ b = c := by
  rcases h with ⟨h, rfl, rfl⟩ | ⟨h, h', s, hr, rfl, rfl⟩
  · rcases h2 with ⟨_, rfl, rfl⟩ | ⟨k, k', _⟩
    · exact ⟨rfl, rfl⟩
    · exact absurd ⟨k, k'⟩ h
  · rcases h2 with ⟨k, _, _⟩ | ⟨_, _, t, kr, rfl, rfl⟩
    · exact absurd ⟨h, h'⟩ k
    · rw [hr.det kr]; exact ⟨rfl, rfl⟩
theorem ClB.val {n : Nat} {st cp at_ : Int} {lng : Bool} {L : List MI} {l : List Int} {w w' : World} {e : Ending} (h : ClB n st cp at_ lng L l w e w') :
    ∃ (O : Option Addr) (m c : Nat) (xs : List Int) (b : Bool), e = .returned (.tuple #[.slice O m c, .bool b]) ∧ IlIn w' O m c xs ∧ ClV n st cp at_ lng L l xs b ∧ Below w.heap.size w w' := by
  obtain ⟨hb, ⟨hn, rfl⟩ | ⟨h1, h2, s, O, oc, hr, rfl, ho⟩⟩ := h
  · exact ⟨none, 0, 0, [], false, rfl, IlIn.empty _, .inl ⟨hn, rfl, rfl⟩, hb⟩
  · exact ⟨O, s.out.length, oc, s.out, s.mt, rfl, IlIn.of_own ho rfl, .inr ⟨h1, h2, s, hr, rfl, rfl⟩, hb⟩

set_option maxRecDepth 20000 in
set_option maxHeartbeats 2000000 in
theorem progsClosure_walk {w : World} {A : Option Addr} {n c : Nat} {st cp : Int} {L : List MI} (hA : PgIn w A n c L) (hfit : n * 56 ≤ 140737488351232 ∧ ∀ x ∈ L, x.n * 8 ≤ 140737488351232) {B : Option Addr} {m d : Nat} {l : List Int} (hI : IlIn w B m d l) (hm8 : m * 8 ≤ 140737488351232) (at_ : Int) (lng : Bool) :
    Calls Try.prog 11 #[.agg #[.slice A n c, .int .i64 st, .int .i64 cp], .slice B m d, .int .i64 at_, .bool lng] w fun e w' => e = .returned (.bool true) ∧ Below w.heap.size w w' := by
  have hb : Below w.heap.size w (w.alloc (.cells #[.slice A n c, .int .i64 st, .int .i64 cp] 38)) := (Below.refl _ _).alloc (Nat.le_refl _) _
  have hB := Blk.new w 38 #[.slice A n c, .int .i64 st, .int .i64 cp]
  have HA := Lib.hid (hA.below hb)
  have HI := Lib.hid (hI.below hb)
  have HB := Lib.hid hb
  have HBK := Lib.hid hB
  have HF := Lib.hid hfit
  have HM8 := Lib.hid hm8
  clear hA hfit hI hm8 hb hB
  go_enter Try.func11, Try.ntmps11
  go_wp2_with fail
  generalize w.alloc (.cells #[.slice A n c, .int .i64 st, .int .i64 cp] 38) = w0 at HA HI HB HBK ⊢
  refine (head12_any w0).mono ?_
  rintro e w1 ⟨rfl, hb1⟩
  replace HA := Lib.hid (HA.out.below hb1)
  replace HI := Lib.hid (HI.out.below hb1)
  replace HBK := Lib.hid (HBK.out.below hb1 HBK.out.lt)
  replace HB := Lib.hid (HB.out.trans (hb1.mono HB.out.size))
  clear hb1
  -- a list of its own
  have hmade := World.ownsRow_made (base := w1.heap.size) (size := 1) (e := 3) w1 #[] 0 (Nat.le_refl _) (Nat.zero_le _) rfl
  have hab0 := fun k hk => (hmade.lt k hk).1
  have hba : Below w1.heap.size w1 (w1.alloc (.cells #[] 3)) := (Below.refl _ _).alloc (Nat.le_refl _) _
  have hR1 := (HI.out.below hba).rd
  have hn1 := HI.out.nil
  have hl1 : (i64s l).length = m * 1 := by rw [i64s_length, HI.out.len, Nat.mul_one]
  have h1e := i64s_one l
  have hmx : 0 + m ≤ maxLen := by rw [Nat.zero_add]; exact Nat.le_trans HI.out.le HI.out.max
  have hbt : (0 + m) * 8 ≤ 140737488355328 := by have := HM8.out; omega
  go_upto_region 3 with (at_builtin; refine wpList_app _ rfl _ _ 42 rfl w1.heap.size 3 elI _ _ _ rfl hmade 0 _ B m d (i64s l) rfl hn1 hl1 hR1 h1e hmx hbt (by simp) ?_; intro v1 V1 hv1 hg1 _ _; obtain ⟨Ao, co, rfl, hd1, hd1'⟩ := own_form hv1)
  simp only [Nat.zero_add, List.nil_append] at hv1
  have hb : Below w1.heap.size w1 V1 := hba.grown hg1 (by simp) hab0
  have HO := Lib.hid (IlIn.of_own hv1 HI.out.len)
  replace HA := Lib.hid (HA.out.below hb)
  replace HI := Lib.hid (HI.out.below hb)
  replace HBK := Lib.hid (HBK.out.below hb HBK.out.lt)
  replace HB := Lib.hid (HB.out.trans (hb.mono HB.out.size))
  have d0 := HBK.out.cell 0
  have d1 := HBK.out.cell 1
  have d2 := HBK.out.cell 2
  simp only [List.getElem?_toArray, List.getElem?_cons_zero, List.getElem?_cons_succ] at d0 d1 d2
  clear hmade hab0 hba hR1 hn1 hl1 h1e hmx hbt hg1 hv1 hb hd1 hd1'
  have hlong := long_any (st := st) (cp := cp) HA.out (fun x hx => by have := HF.out.2 x hx; omega) (by have := HF.out.1; omega)
  go_wp2_with fail
  refine hlong.mono ?_
  rintro e w2 ⟨b, rfl, hbl, hb2⟩
  cases b with
  | true =>
    replace HB := Lib.hid (HB.out.trans (hb2.mono HB.out.size))
    clear hlong hbl hb2 d0 d1 d2
    go_wp2_with fail
    go_ret
    exact ⟨rfl, HB.out⟩
  | false =>
    have HSM := Lib.hid (show ∀ x ∈ L, x.n ≤ 1000000 from fun x hx => by have := (hbl rfl).2 x hx; omega)
    replace HA := Lib.hid (HA.out.below hb2)
    replace HI := Lib.hid (HI.out.below hb2)
    replace HO := Lib.hid (HO.out.below hb2)
    replace HBK := Lib.hid (HBK.out.below hb2 HBK.out.lt)
    replace HB := Lib.hid (HB.out.trans (hb2.mono HB.out.size))
    clear hlong hbl hb2 d0 d1 d2
    have d0 := HBK.out.cell 0
    have d1 := HBK.out.cell 1
    have d2 := HBK.out.cell 2
    simp only [List.getElem?_toArray, List.getElem?_cons_zero, List.getElem?_cons_succ] at d0 d1 d2
    have hcl := closure_any (st := st) (cp := cp) HA.out HSM.out HO.out at_ lng
    go_wp2_with fail
    refine hcl.mono ?_
    rintro e w3 hc3
    obtain ⟨O1, n1, c1, xs, b1, rfl, hi3, hv3, hb3⟩ := hc3.val
    have HX := Lib.hid hi3
    have HV3 := Lib.hid hv3
    replace HA := Lib.hid (HA.out.below hb3)
    replace HI := Lib.hid (HI.out.below hb3)
    replace HO := Lib.hid (HO.out.below hb3)
    replace HBK := Lib.hid (HBK.out.below hb3 HBK.out.lt)
    replace HB := Lib.hid (HB.out.trans (hb3.mono HB.out.size))
    clear hcl hc3 hi3 hv3 hb3 d0 d1 d2
    have d0 := HBK.out.cell 0
    have d1 := HBK.out.cell 1
    have d2 := HBK.out.cell 2
    simp only [List.getElem?_toArray, List.getElem?_cons_zero, List.getElem?_cons_succ] at d0 d1 d2
    have hcl := rclosure_any (st := st) (cp := cp) HA.out HI.out at_ lng
    go_wp2_with fail
    refine hcl.mono ?_
    rintro e w4 hc4
    obtain ⟨O2, n2, c2, ys, b2, rfl, hi4, hv4, hb4⟩ := hc4.val
    obtain ⟨hxy, rfl⟩ := HV3.out.det hv4
    have HXY := Lib.hid hxy
    have HY := Lib.hid hi4
    replace HX := Lib.hid (HX.out.below hb4)
    replace HI := Lib.hid (HI.out.below hb4)
    replace HO := Lib.hid (HO.out.below hb4)
    replace HB := Lib.hid (HB.out.trans (hb4.mono HB.out.size))
    clear hcl hc4 hi4 hv4 hb4 d0 d1 d2 hxy
    have hs1 := sameI_any HX.out HY.out
    have hbb : (b1 == b1) = true := by simp
    go_wp2_with fail
    refine hs1.mono ?_
    rintro e w5 ⟨b5, rfl, hb5, hbw5⟩
    obtain rfl : b5 = true := hb5.2 HXY.out
    replace HI := Lib.hid (HI.out.below hbw5)
    replace HO := Lib.hid (HO.out.below hbw5)
    replace HB := Lib.hid (HB.out.trans (hbw5.mono HB.out.size))
    clear hs1 hb5 hbw5
    have hs2 := sameI_any HO.out HI.out
    go_wp2_with fail
    refine hs2.mono ?_
    rintro e w6 ⟨b6, rfl, hb6, hbw6⟩
    obtain rfl : b6 = true := hb6.2 rfl
    replace HB := Lib.hid (HB.out.trans (hbw6.mono HB.out.size))
    clear hs2 hb6 hbw6
    go_wp2_with fail
    go_ret
    exact ⟨rfl, HB.out⟩
end Go.Proofs.Ytbhcgjahlfpjoaa
