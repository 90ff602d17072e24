/- ThreadsFinds: the law's walk. -/
import Derived.Test.YtbhcgjahlfpjoaaDoorLf1
import Derived.Test.YtbhcgjahlfpjoaaDoorHeldU
namespace Go.Proofs.YtbhcgjahlfpjoaaDoor
open Go.RowKit

theorem BestIn.slice2 {B0 : Nat} {W : World} {Z : Nat → Prop} {v : Value} {R : Option (List Int)} (h : BestIn B0 W Z v R) : ∃ (a : Option Addr) (k e : Nat), v = .slice a k e ∧ IlIn W a k e (R.getD []) ∧ ((R = none ∧ a = none ∧ k = 0 ∧ e = 0) ∨ (0 < k ∧ ∃ gB cs, a = some ⟨gB, 0, none⟩ ∧ B0 ≤ gB ∧ ¬ Z gB ∧ Blk W gB 3 cs ∧ ∀ i, i < k → ∃ u, cs[i]? = some (.int .i64 u)) ∨ (k = 0 ∧ a ≠ none)) := by
  cases R with
  | none =>
    obtain rfl := show v = .slice none 0 0 from h
    exact ⟨none, 0, 0, rfl, IlIn.empty _, .inl ⟨rfl, rfl, rfl, rfl⟩⟩
  | some f =>
    obtain ⟨⟨b, o, cc, rfl, h1, h2, h3, h4, h5⟩, ho⟩ := h
    have hil : IlIn W (some ⟨b, o, none⟩) f.length cc f := FitIn.il (Z := Z) ⟨b, o, cc, rfl, h1, h2, h3, h4, h5⟩
    refine ⟨_, f.length, cc, rfl, hil, ?_⟩
    rcases Nat.eq_zero_or_pos f.length with h0 | h0
    · exact .inr (.inr ⟨h0, by simp⟩)
    · obtain ⟨g, cap, hv, hgb, _⟩ := ho.form h0
      injection hv with hv _ _
      injection hv with hv
      injection hv with hv1 hv2
      subst hv1; subst hv2
      obtain ⟨cur, hB, _, _, ht, _, _⟩ := own_blk ho
      refine .inr (.inl ⟨h0, b, cur, rfl, hgb, h4, hB, fun i hi => ⟨f[i], ?_⟩⟩)
      have h6 := congrArg (fun l => l[i]?) ht
      simp only [Nat.mul_one] at h6
      rw [List.getElem?_take, if_pos hi, i64s_at (List.getElem?_eq_getElem hi)] at h6
      rw [← Array.getElem?_toList]
      exact h6
theorem TellB.slice {W : World} {v : Value} {R : Option (List Int)} (h : BestF W (fun _ => False) v R) : ∃ (a : Option Addr) (k e : Nat), v = .slice a k e ∧ IlIn W a k e (R.getD []) := by
  cases R with
  | none =>
    obtain rfl := show v = .slice none 0 0 from h
    exact ⟨none, 0, 0, rfl, IlIn.empty _⟩
  | some f =>
    obtain ⟨b, o, cc, rfl, r⟩ := h
    exact ⟨_, f.length, cc, rfl, FitIn.il (Z := fun _ => False) ⟨b, o, cc, rfl, r⟩⟩
set_option maxRecDepth 100000 in
set_option maxHeartbeats 16000000 in
theorem threadsFinds_walk {w : World} {Q : Option Addr} {m d : Nat} {K : List AV} (hT : Lib.Utf8Tabs 0 1 w) (hK : AsksIn w Q m d K) :
    Calls Tryd.prog 3 #[.slice Q m d] w fun e w' => e = .returned (.bool true) ∧ Below w.heap.size w w' := by
  have hh := head17_any w
  have hmx := hK.max
  have hle := hK.le
  unfold maxLen at hmx
  have hmi : (m : Int) ≤ 9223372036854775807 := by omega
  have HT := Lib.hid hT
  have HK := Lib.hid hK
  clear hT hK hmx hle
  go_enter Tryd.func3, Tryd.ntmps3
  go_wp2_with fail
  with_reducible refine hh.mono ?_
  rintro e w3 ⟨rfl, hb3⟩
  have B3 := Lib.hid hb3
  have hn := new17_any w3
  clear hh hb3
  go_wp2_with fail
  with_reducible refine hn.mono ?_
  rintro e w6 ⟨rfl, hma, hb6, _, _⟩
  have HM0 := Lib.hid (Mx.new (B3.out.trans (hb6.mono B3.out.size)) hma B3.out.size)
  clear hn hma hb6
  generalize w3.heap.size = g at HM0 ⊢
  by_cases hm50 : m ≤ 50
  case neg =>
    have i0 : (50 : Int) < (m : Int) := by omega
    have i0n : 50 < m := by omega
    go_wp2_with fail
    go_ret
    exact ⟨rfl, HM0.out.below⟩
  have i0 : ¬ (50 : Int) < (m : Int) := by omega
  have i0n : ¬ 50 < m := by omega
  clear hm50
  go_wp2_with fail
  clear i0 i0n
  go_loopg [5] (m + 1) (fun q i wr => ∃ (j : Nat) (D1 D2 : LD), q = m + 1 - j ∧ j ≤ m ∧ i = .int .i64 (j : Int) ∧ Hid (Mx w wr g D1 D2))
  case atStart => exact ⟨0, D0, D0, rfl, Nat.zero_le _, rfl, HM0⟩
  case round =>
    obtain ⟨j, D1, D2, hgk, hj, rfl, HR⟩ := hrel
    have HG := Lib.hid hgk
    have HJ := Lib.hid hj
    clear hgk hj
    by_cases hlt : j < m
    case neg =>
      have hi : ¬ (j : Int) < (m : Int) := by omega
      go_wp2_with fail
      go_ret
      exact ⟨rfl, HR.out.below⟩
    have hi : (j : Int) < (m : Int) := by omega
    obtain ⟨b, o, x, rfl, _, _, hx, hc⟩ := HK.out.at hlt
    obtain ⟨c0, c1, c2, c3, c4, c5, c6⟩ := hc wr (.of_below HR.out.below (Nat.le_refl _))
    have HLT := Lib.hid hlt
    have HX := Lib.hid hx
    have hjw : IntKind.i64.wrap ((j : Int) + 1) = (j : Int) + 1 := IntWalk.i64_in _ (by omega)
    clear hc hx hlt
    go_upto_region 9 with fail
    have q1 := Blk.new wr 31 #[.slice x.A x.n x.c, .int .i64 x.st, .int .i64 x.cp, .slice x.T x.tn x.tc, .int .i64 x.frm, .bool x.anch, .bool x.lng]
    have b1 : Below wr.heap.size wr (wr.alloc (.cells #[.slice x.A x.n x.c, .int .i64 x.st, .int .i64 x.cp, .slice x.T x.tn x.tc, .int .i64 x.frm, .bool x.anch, .bool x.lng] 31)) := (Below.refl _ _).alloc (Nat.le_refl _) _
    have HM1 := Lib.hid (HR.out.on b1)
    have Q1 := Lib.hid q1
    clear q1 b1 c0 c1 c2 c3 c4 c5 c6 HR
    generalize wr.alloc (.cells #[.slice x.A x.n x.c, .int .i64 x.st, .int .i64 x.cp, .slice x.T x.tn x.tc, .int .i64 x.frm, .bool x.anch, .bool x.lng] 31) = wa at HM1 Q1 ⊢
    generalize wr.heap.size = gx at Q1 ⊢
    have x3 := Q1.out.cell 3
    simp only [List.getElem?_toArray, List.getElem?_cons_zero, List.getElem?_cons_succ] at x3
    have ht := text11_any (c := x.tc) (HX.out.1.rd.same (Same.of_below HM1.out.below (Nat.le_refl _))) HM1.out.below.size HX.out.1.sz HX.out.1.tnil HX.out.1.tle
    go_wp2_with fail
    with_reducible refine ht.mono ?_
    intro e w5 ht5
    obtain ⟨pa, rfl, hb5, hpa⟩ := ht5.ptr
    have HM5 := Lib.hid (HM1.out.on hb5)
    have Q5 := Lib.hid (Q1.out.below hb5 Q1.out.lt)
    have HPA := Lib.hid hpa
    have HLO := Lib.hid HM1.out
    clear ht hb5 x3 ht5 hpa Q1 HM1
    go_upto_region 10 with fail
    rcases HPA.out with rfl | ⟨ga, ma, rfl, hca, hsa, hia⟩
    · go_wp2_with fail
      go_roundg (m + 1 - (j + 1))
      case measure => have := HG.out; have := HLT.out; omega
      case rel => exact ⟨j + 1, D1, D2, rfl, by have := HLT.out; omega, by go_num, HM5⟩
    have HIN := Lib.hid (InpX.new hia HLO.out)
    have HCA := Lib.hid (And.intro hca hsa)
    have hlx := long15_any (st := x.st) (cp := x.cp) (HX.out.1.pg.below HM5.out.below) HX.out.1.fit HX.out.1.nn x.T (tn := x.tn) (tc := x.tc) (by have := HX.out.1.sz; omega)
    have x0 := Q5.out.cell 0
    have x1 := Q5.out.cell 1
    have x2 := Q5.out.cell 2
    have x3 := Q5.out.cell 3
    simp only [List.getElem?_toArray, List.getElem?_cons_zero, List.getElem?_cons_succ] at x0 x1 x2 x3
    clear hca hsa hia HPA HLO
    go_wp2_with fail
    with_reducible refine hlx.mono ?_
    rintro e w7 ⟨bl, rfl, hbl, hb7⟩
    have HBL := Lib.hid hbl
    have HM7 := Lib.hid (HM5.out.on hb7)
    have HIN7 := Lib.hid (HIN.out.on hb7)
    have Q7 := Lib.hid (Q5.out.below hb7 Q5.out.lt)
    clear hlx hbl hb7 x0 x1 x2 x3 Q5 HIN HM5
    cases bl with
    | true =>
      go_wp2_with fail
      go_roundg (m + 1 - (j + 1))
      case measure => have := HG.out; have := HLT.out; omega
      case rel => exact ⟨j + 1, D1, D2, rfl, by have := HLT.out; omega, by go_num, HM7⟩
    | false =>
    obtain ⟨hn2, hs2, ht3, hnt⟩ := HBL.out rfl
    have HSX : Hid (∀ y ∈ x.L, y.n ≤ 1000000) := Lib.hid fun y hy => by have := hs2 y hy; omega
    have HN2 := Lib.hid (And.intro hn2 (And.intro ht3 hnt))
    clear hs2 hn2 ht3 hnt HBL
    have hml := HCA.out.1.le
    have hlb : 1 ≤ (full (preR x.s ma) x.s.size).length ∧ (full (preR x.s ma) x.s.size).length ≤ 100000 := ⟨by rw [full_length]; omega, by rw [full_length, pre_length]; have := HCA.out.2; omega⟩
    have HLL : Hid ((full (preR x.s ma) x.s.size).length = ma + 1) := Lib.hid (by rw [full_length, pre_length])
    have HML := Lib.hid hml
    have hf1 := HM7.out.find (st := x.st) (cp := x.cp) HX.out.1.pg HSX.out HIN7.out hlb x.frm HX.out.1.fr x.anch x.lng
    have x0 := Q7.out.cell 0
    have x1 := Q7.out.cell 1
    have x2 := Q7.out.cell 2
    have x4 := Q7.out.cell 4
    have x5 := Q7.out.cell 5
    have x6 := Q7.out.cell 6
    simp only [List.getElem?_toArray, List.getElem?_cons_zero, List.getElem?_cons_succ] at x0 x1 x2 x4 x5 x6
    clear hml hlb
    go_wp2_with fail
    with_reducible refine hf1.mono ?_
    rintro e w9 ⟨v1, E1, E2, rfl, hb1, hM1, hW1⟩
    have HM9 := Lib.hid hM1
    have HB9 := Lib.hid hb1
    have HIN9 := Lib.hid (HIN7.out.went hW1)
    have Q9 := Lib.hid (HM7.out.ty hW1 Q7.out (by decide) (by decide) (by decide))
    have HZ7 := Lib.hid HM7.out.below.size
    clear hf1 hb1 hM1 hW1 x0 x1 x2 x4 x5 x6 HM7 HIN7 Q7
    have hck := rcheck_any (st := x.st) (cp := x.cp) (HX.out.1.pg.below HM9.out.below)
    have x0 := Q9.out.cell 0
    have x1 := Q9.out.cell 1
    have x2 := Q9.out.cell 2
    simp only [List.getElem?_toArray, List.getElem?_cons_zero, List.getElem?_cons_succ] at x0 x1 x2
    go_upto_region 12 with fail
    go_wp2_with fail
    with_reducible refine hck.mono ?_
    rintro e w10 ⟨vc, rfl, hvc, hb10⟩
    have HM10 := Lib.hid (HM9.out.on hb10)
    have HIN10 := Lib.hid (HIN9.out.on hb10)
    have Q10 := Lib.hid (Q9.out.below hb10 Q9.out.lt)
    have HBB := Lib.hid hb10
    clear hck hb10 x0 x1 x2 HM9 HIN9 Q9
    rcases hvc with ⟨rfl, hok⟩ | ⟨rfl, hno⟩
    case inr =>
      have hR : fR x.n x.st x.cp x.L (full (preR x.s ma) x.s.size) x.frm x.anch x.lng = none := fR_bad hno _ _ _
      have hS : fS x.n x.st x.cp x.L (full (preR x.s ma) x.s.size) x.frm x.anch x.lng = 0 := by unfold fS; rw [if_neg hno]
      rw [hR] at HB9 ⊢
      rw [hS]
      obtain rfl := show v1 = .slice none 0 0 from HB9.out
      clear hR hS hno
      go_wp2_with fail
      go_roundg (m + 1 - (j + 1))
      case measure => have := HG.out; have := HLT.out; omega
      case rel => exact ⟨j + 1, E1, E2, rfl, by have := HLT.out; omega, by go_num, HM10⟩
    obtain ⟨cc, hcc⟩ : ∃ cc : Nat, x.cp = (cc : Int) := ⟨x.cp.toNat, by have := hok.2.2.2.2.1; omega⟩
    rw [hcc] at hok HB9 Q10 ⊢
    have HOK := Lib.hid hok
    have hRe : fR x.n x.st (cc : Int) x.L (full (preR x.s ma) x.s.size) x.frm x.anch x.lng = findR x.L (full (preR x.s ma) x.s.size) x.st (cc : Int) x.frm x.anch x.lng := by unfold fR; rw [if_pos hok]
    have hSl := fS_le (l := full (preR x.s ma) x.s.size) hok HX.out.1.pg.len x.frm x.anch x.lng (by rw [HLL.out]; have := HML.out; have := HCA.out.2; omega)
    rw [hRe] at HB9 ⊢
    rw [HLL.out] at hSl
    generalize fS x.n x.st (cc : Int) x.L (full (preR x.s ma) x.s.size) x.frm x.anch x.lng = ks at hSl ⊢
    have HSL := Lib.hid hSl
    clear hok hRe hSl hcc
    have HB10 := Lib.hid (HB9.out.went ((Went.refl _ _ _ _).below HBB.out))
    clear HB9 HBB
    have hdoc := doc_any (tabs_below HT.out HM10.out.below.drew) (HX.out.1.rd.same (Same.of_below HM10.out.below.drew (Nat.le_refl _))) HM10.out.below.size HX.out.1.sz HX.out.2.1 HX.out.2.2 HX.out.1.tnil (by have := HN2.out; omega)
    go_upto_region 15 with fail
    have hS : (fun w' => w'.cell? ⟨gx, 0, none⟩ = some (.slice x.A x.n x.c) ∧ w'.cell? ⟨gx, 1, none⟩ = some (.int .i64 x.st) ∧ w'.cell? ⟨gx, 2, none⟩ = some (.int .i64 (cc : Int)) ∧ w'.cell? ⟨gx, 3, none⟩ = some (.slice x.T x.tn x.tc) ∧ w'.cell? ⟨gx, 4, none⟩ = some (.int .i64 x.frm) ∧ w'.cell? ⟨gx, 5, none⟩ = some (.bool x.anch) ∧ w'.cell? ⟨gx, 6, none⟩ = some (.bool x.lng)) w10.drew := And.intro (Q10.out.cell 0) (And.intro (Q10.out.cell 1) (And.intro (Q10.out.cell 2) (And.intro (Q10.out.cell 3) (And.intro (Q10.out.cell 4) (And.intro (Q10.out.cell 5) (Q10.out.cell 6))))))
    refine wp_region_U (S := fun w' => w'.cell? ⟨gx, 0, none⟩ = some (.slice x.A x.n x.c) ∧ w'.cell? ⟨gx, 1, none⟩ = some (.int .i64 x.st) ∧ w'.cell? ⟨gx, 2, none⟩ = some (.int .i64 (cc : Int)) ∧ w'.cell? ⟨gx, 3, none⟩ = some (.slice x.T x.tn x.tc) ∧ w'.cell? ⟨gx, 4, none⟩ = some (.int .i64 x.frm) ∧ w'.cell? ⟨gx, 5, none⟩ = some (.bool x.anch) ∧ w'.cell? ⟨gx, 6, none⟩ = some (.bool x.lng)) (t := 99) (by kernel_rfl) ?_
    refine wpAnyU_pure (i := 0) (v := ?_) rfl (by kernel_rfl) (by kernel_rfl) (by kernel_rfl) (fun _ _ _ h => h) (by kernel_rfl) (Or.inl ⟨by rfl, ?_⟩) (Or.inr hS) ?_
    rotate_left
    · (intro w _; go_simp; try with_reducible rfl)
    try simp only [List.getElem_toArray, List.getElem_cons_zero, Act.put, List.setIfInBounds_toArray, List.set_cons_zero, List.set_cons_succ]
    refine wpAnyU_take (i := 1) (v := ?_) rfl (by kernel_rfl) (by kernel_rfl) (by kernel_rfl) (fun _ _ _ h => h) (by kernel_rfl) (Or.inl ⟨by rfl, ?_⟩) hS ?_
    rotate_left
    · (intro w hS; obtain ⟨s0, s1, s2, s3, s4, s5, s6⟩ := hS; go_simp; try with_reducible rfl)
    try simp only [List.getElem_toArray, List.getElem_cons_succ, List.getElem_cons_zero, Act.put, List.setIfInBounds_toArray, List.set_cons_zero, List.set_cons_succ]
    refine wpAnyU_pure (i := 2) (v := ?_) rfl (by kernel_rfl) (by kernel_rfl) (by kernel_rfl) (fun _ _ _ h => h) (by kernel_rfl) (Or.inl ⟨by rfl, ?_⟩) (Or.inr hS) ?_
    rotate_left
    · (intro w _; go_simp; try with_reducible rfl)
    try simp only [List.getElem_toArray, List.getElem_cons_succ, List.getElem_cons_zero, Act.put, List.setIfInBounds_toArray, List.set_cons_zero, List.set_cons_succ]
    refine wpAnyU_take (i := 3) (v := ?_) rfl (by kernel_rfl) (by kernel_rfl) (by kernel_rfl) (fun _ _ _ h => h) (by kernel_rfl) (Or.inl ⟨by rfl, ?_⟩) hS ?_
    rotate_left
    · (intro w hS; obtain ⟨s0, s1, s2, s3, s4, s5, s6⟩ := hS; go_simp; try with_reducible rfl)
    try simp only [List.getElem_toArray, List.getElem_cons_succ, List.getElem_cons_zero, Act.put, List.setIfInBounds_toArray, List.set_cons_zero, List.set_cons_succ]
    refine wpAnyU_pure (i := 5) (v := ?_) rfl (by kernel_rfl) (by kernel_rfl) (by kernel_rfl) (fun _ _ _ h => h) (by kernel_rfl) (Or.inl ⟨by rfl, ?_⟩) (Or.inr hS) ?_
    rotate_left
    · (intro w _; go_simp; try with_reducible rfl)
    try simp only [List.getElem_toArray, List.getElem_cons_succ, List.getElem_cons_zero, Act.put, List.setIfInBounds_toArray, List.set_cons_zero, List.set_cons_succ]
    refine wpAnyU_take (i := 6) (v := ?_) rfl (by kernel_rfl) (by kernel_rfl) (by kernel_rfl) (fun _ _ _ h => h) (by kernel_rfl) (Or.inl ⟨by rfl, ?_⟩) hS ?_
    rotate_left
    · (intro w hS; obtain ⟨s0, s1, s2, s3, s4, s5, s6⟩ := hS; go_simp; try with_reducible rfl)
    try simp only [List.getElem_toArray, List.getElem_cons_succ, List.getElem_cons_zero, Act.put, List.setIfInBounds_toArray, List.set_cons_zero, List.set_cons_succ]
    refine wpAnyU_pure (i := 7) (v := ?_) rfl (by kernel_rfl) (by kernel_rfl) (by kernel_rfl) (fun _ _ _ h => h) (by kernel_rfl) (Or.inl ⟨by rfl, ?_⟩) (Or.inr hS) ?_
    rotate_left
    · (intro w _; go_simp; try with_reducible rfl)
    try simp only [List.getElem_toArray, List.getElem_cons_succ, List.getElem_cons_zero, Act.put, List.setIfInBounds_toArray, List.set_cons_zero, List.set_cons_succ]
    refine wpAnyU_take (i := 8) (v := ?_) rfl (by kernel_rfl) (by kernel_rfl) (by kernel_rfl) (fun _ _ _ h => h) (by kernel_rfl) (Or.inl ⟨by rfl, ?_⟩) hS ?_
    rotate_left
    · (intro w hS; obtain ⟨s0, s1, s2, s3, s4, s5, s6⟩ := hS; go_simp; try with_reducible rfl)
    try simp only [List.getElem_toArray, List.getElem_cons_succ, List.getElem_cons_zero, Act.put, List.setIfInBounds_toArray, List.set_cons_zero, List.set_cons_succ]
    refine wpAnyU_pure (i := 9) (v := ?_) rfl (by kernel_rfl) (by kernel_rfl) (by kernel_rfl) (fun _ _ _ h => h) (by kernel_rfl) (Or.inl ⟨by rfl, ?_⟩) (Or.inr hS) ?_
    rotate_left
    · (intro w _; go_simp; try with_reducible rfl)
    try simp only [List.getElem_toArray, List.getElem_cons_succ, List.getElem_cons_zero, Act.put, List.setIfInBounds_toArray, List.set_cons_zero, List.set_cons_succ]
    refine wpAnyU_take (i := 10) (v := ?_) rfl (by kernel_rfl) (by kernel_rfl) (by kernel_rfl) (fun _ _ _ h => h) (by kernel_rfl) (Or.inl ⟨by rfl, ?_⟩) hS ?_
    rotate_left
    · (intro w hS; obtain ⟨s0, s1, s2, s3, s4, s5, s6⟩ := hS; go_simp; try with_reducible rfl)
    try simp only [List.getElem_toArray, List.getElem_cons_succ, List.getElem_cons_zero, Act.put, List.setIfInBounds_toArray, List.set_cons_zero, List.set_cons_succ]
    refine wpAnyU_one (i := 4) (by kernel_rfl) rfl (fun K hK => ?_)
    rw [if_pos (by rfl)]
    simp only [List.getElem_toArray, List.getElem_cons_succ, List.getElem_cons_zero]
    simp (config := {maxSteps := 3000000}) [go_sem]
    with_reducible refine hdoc.mono ?_
    rintro e w11 ⟨gd, m2, hm2, rfl, hrf, hb11⟩
    obtain rfl : ma = m2 := (hm2.unique HCA.out.1).symm
    have Q11 := Lib.hid (Q10.out.drew.below hb11 Q10.out.lt)
    have HM11 := Lib.hid (HM10.out.on (Below.undrew hb11))
    have HB11 : Hid (Below w10.heap.size w10 w11) := Lib.hid (Below.undrew hb11)
    have hwa := want_any (frm := x.frm) x.anch x.lng (HX.out.1.pg.below HM11.out.below) HOK.out hrf (Nat.le_refl _) (pre_length x.s _) (pre_pos x.s _) (by have := HML.out; have := HCA.out.2; omega) (by have h1 := HN2.out.2.2; have h2 : (ma + 1) * x.n ≤ (x.tn + 1) * x.n := Nat.mul_le_mul_right x.n (by have := HML.out; have := HX.out.1.sz; omega); rw [Nat.mul_comm x.n] at h1; exact Nat.le_trans h2 (by omega)) HX.out.1.fr
    clear hdoc hm2 hrf hb11
    go_simp
    replace hS := And.intro (Q11.out.cell 0) (And.intro (Q11.out.cell 1) (And.intro (Q11.out.cell 2) (And.intro (Q11.out.cell 3) (And.intro (Q11.out.cell 4) (And.intro (Q11.out.cell 5) (Q11.out.cell 6))))))
    refine hK _ _ (Or.inr hS) ?_
    clear hK K
    try simp only [Array.getInternal_eq_getElem, List.getElem_toArray, List.getElem_cons_succ, List.getElem_cons_zero, Act.put, List.setIfInBounds_toArray, List.set_cons_zero, List.set_cons_succ]
    refine wpAnyU_one (i := 11) (by kernel_rfl) rfl (fun K hK => ?_)
    rw [if_pos (by rfl)]
    simp only [List.getElem_toArray, List.getElem_cons_succ, List.getElem_cons_zero]
    simp (config := {maxSteps := 3000000}) [go_sem]
    with_reducible refine hwa.mono ?_
    rintro e w12 ⟨v2, rfl, hbf, hb12⟩
    have Q12 := Lib.hid (Q11.out.below hb12 Q11.out.lt)
    have HM12 := Lib.hid (HM11.out.on hb12)
    have HB12 := Lib.hid (HB11.out.onto hb12)
    have HBF := Lib.hid hbf
    clear hwa hbf hb12
    go_simp
    replace hS := And.intro (Q12.out.cell 0) (And.intro (Q12.out.cell 1) (And.intro (Q12.out.cell 2) (And.intro (Q12.out.cell 3) (And.intro (Q12.out.cell 4) (And.intro (Q12.out.cell 5) (Q12.out.cell 6))))))
    refine hK _ _ (Or.inr hS) ?_
    clear hK K
    try simp only [Array.getInternal_eq_getElem, List.getElem_toArray, List.getElem_cons_succ, List.getElem_cons_zero, Act.put, List.setIfInBounds_toArray, List.set_cons_zero, List.set_cons_succ]
    refine wpAnyU_pure (i := 12) (v := ?_) rfl (by kernel_rfl) (by kernel_rfl) (by kernel_rfl) (fun _ _ _ h => h) (by kernel_rfl) (Or.inl ⟨by rfl, ?_⟩) (Or.inr hS) ?_
    rotate_left
    · (intro w _; go_simp; try with_reducible rfl)
    try simp only [List.getElem_toArray, List.getElem_cons_succ, List.getElem_cons_zero, Act.put, List.setIfInBounds_toArray, List.set_cons_zero, List.set_cons_succ]
    refine wpAnyU_pure (i := 13) (v := ?_) rfl (by kernel_rfl) (by kernel_rfl) (by kernel_rfl) (fun _ _ _ h => h) (by kernel_rfl) (Or.inl ⟨by rfl, ?_⟩) (Or.inr hS) ?_
    rotate_left
    · (intro w _; go_simp; try with_reducible rfl)
    try simp only [List.getElem_toArray, List.getElem_cons_succ, List.getElem_cons_zero, Act.put, List.setIfInBounds_toArray, List.set_cons_zero, List.set_cons_succ]
    refine wpAnyU_pure (i := 14) (v := ?_) rfl (by kernel_rfl) (by kernel_rfl) (by kernel_rfl) (fun _ _ _ h => h) (by kernel_rfl) (Or.inl ⟨by rfl, ?_⟩) (Or.inr hS) ?_
    rotate_left
    · (intro w _; go_simp; try with_reducible rfl)
    try simp only [List.getElem_toArray, List.getElem_cons_succ, List.getElem_cons_zero, Act.put, List.setIfInBounds_toArray, List.set_cons_zero, List.set_cons_succ]
    refine wpAnyU_pure (i := 15) (v := ?_) rfl (by kernel_rfl) (by kernel_rfl) (by kernel_rfl) (fun _ _ _ h => h) (by kernel_rfl) (Or.inl ⟨by rfl, ?_⟩) (Or.inr hS) ?_
    rotate_left
    · (intro w _; go_simp; try with_reducible rfl)
    try simp only [List.getElem_toArray, List.getElem_cons_succ, List.getElem_cons_zero, Act.put, List.setIfInBounds_toArray, List.set_cons_zero, List.set_cons_succ]
    refine wpAnyU_pure (i := 16) (v := ?_) rfl (by kernel_rfl) (by kernel_rfl) (by kernel_rfl) (fun _ _ _ h => h) (by kernel_rfl) (Or.inl ⟨by rfl, ?_⟩) (Or.inr hS) ?_
    rotate_left
    · (intro w _; go_simp; try with_reducible rfl)
    try simp only [List.getElem_toArray, List.getElem_cons_succ, List.getElem_cons_zero, Act.put, List.setIfInBounds_toArray, List.set_cons_zero, List.set_cons_succ]
    refine wpAnyU_done (by kernel_rfl) ?_ _
    clear hS
    have HBI := Lib.hid (HB10.out.went ((Went.refl _ _ _ _).below HB12.out))
    have HIN12 := Lib.hid (HIN10.out.on HB12.out)
    clear HB10 HIN10 HM10 HM11 Q10 Q11 HB11 HB12
    generalize findR x.L (full (preR x.s ma) x.s.size) x.st (cc : Int) x.frm x.anch x.lng = R at HBI HBF ⊢
    obtain ⟨a1, k1, e1, rfl, hil1, hfl1⟩ := HBI.out.slice2
    obtain ⟨a2, k2, e2, rfl, hil2⟩ := TellB.slice HBF.out
    have hsm := sameI_any (w := w12.drew) (hil1.drewN 1) (hil2.drewN 1)
    have HFL := Lib.hid hfl1
    have HIL1 := Lib.hid hil1
    have hne : (R.isSome != R.isSome) = false := by simp
    have hk1 : (k1 : Int) ≤ 9223372036854775807 := by have h1 := hil1.max; have h2 := hil1.le; unfold maxLen at h1; omega
    obtain ⟨pl, hpl⟩ : ∃ pl, pl = ma + 1 := ⟨_, rfl⟩
    have hpw : IntKind.i64.wrap ((ma : Int) + 1) = (pl : Int) := by rw [show (ma : Int) + 1 = (pl : Int) by omega]; exact IntWalk.i64_in _ (by have := HML.out; have := HCA.out.2; omega)
    have HPL := Lib.hid hpl
    clear hil1 hil2 hfl1 hpl
    go_upto_region 16 with fail
    have hS : (fun w' => w'.cell? ⟨gx, 0, none⟩ = some (.slice x.A x.n x.c) ∧ w'.cell? ⟨gx, 1, none⟩ = some (.int .i64 x.st) ∧ w'.cell? ⟨gx, 2, none⟩ = some (.int .i64 (cc : Int))) w12.drew := And.intro (Q12.out.cell 0) (And.intro (Q12.out.cell 1) (Q12.out.cell 2))
    refine wp_region_U (S := fun w' => w'.cell? ⟨gx, 0, none⟩ = some (.slice x.A x.n x.c) ∧ w'.cell? ⟨gx, 1, none⟩ = some (.int .i64 x.st) ∧ w'.cell? ⟨gx, 2, none⟩ = some (.int .i64 (cc : Int))) (t := 99) (by kernel_rfl) ?_
    refine wpAnyU_pure (i := 0) (v := ?_) rfl (by kernel_rfl) (by kernel_rfl) (by kernel_rfl) (fun _ _ _ h => h) (by kernel_rfl) (Or.inl ⟨by rfl, ?_⟩) (Or.inr hS) ?_
    rotate_left
    · (intro w _; go_simp; try with_reducible rfl)
    try simp only [List.getElem_toArray, List.getElem_cons_zero, Act.put, List.setIfInBounds_toArray, List.set_cons_zero, List.set_cons_succ]
    refine wpAnyU_pure (i := 1) (v := ?_) rfl (by kernel_rfl) (by kernel_rfl) (by kernel_rfl) (fun _ _ _ h => h) (by kernel_rfl) (Or.inl ⟨by rfl, ?_⟩) (Or.inr hS) ?_
    rotate_left
    · (intro w _; go_simp; try with_reducible rfl)
    try simp only [List.getElem_toArray, List.getElem_cons_succ, List.getElem_cons_zero, Act.put, List.setIfInBounds_toArray, List.set_cons_zero, List.set_cons_succ]
    refine wpAnyU_pure (i := 2) (v := ?_) rfl (by kernel_rfl) (by kernel_rfl) (by kernel_rfl) (fun _ _ _ h => h) (by kernel_rfl) (Or.inl ⟨by rfl, ?_⟩) (Or.inr hS) ?_
    rotate_left
    · (intro w _; go_simp; try with_reducible rfl)
    try simp only [List.getElem_toArray, List.getElem_cons_succ, List.getElem_cons_zero, Act.put, List.setIfInBounds_toArray, List.set_cons_zero, List.set_cons_succ]
    refine wpAnyU_pure (i := 3) (v := ?_) rfl (by kernel_rfl) (by kernel_rfl) (by kernel_rfl) (fun _ _ _ h => h) (by kernel_rfl) (Or.inl ⟨by rfl, ?_⟩) (Or.inr hS) ?_
    rotate_left
    · (intro w _; go_simp; try with_reducible rfl)
    try simp only [List.getElem_toArray, List.getElem_cons_succ, List.getElem_cons_zero, Act.put, List.setIfInBounds_toArray, List.set_cons_zero, List.set_cons_succ]
    refine wpAnyU_pure (i := 4) (v := ?_) rfl (by kernel_rfl) (by kernel_rfl) (by kernel_rfl) (fun _ _ _ h => h) (by kernel_rfl) (Or.inl ⟨by rfl, ?_⟩) (Or.inr hS) ?_
    rotate_left
    · (intro w _; go_simp; try with_reducible rfl)
    try simp only [List.getElem_toArray, List.getElem_cons_succ, List.getElem_cons_zero, Act.put, List.setIfInBounds_toArray, List.set_cons_zero, List.set_cons_succ]
    refine wpAnyU_pure (i := 5) (v := ?_) rfl (by kernel_rfl) (by kernel_rfl) (by kernel_rfl) (fun _ _ _ h => h) (by kernel_rfl) (Or.inl ⟨by rfl, ?_⟩) (Or.inr hS) ?_
    rotate_left
    · (intro w _; go_simp; try with_reducible rfl)
    try simp only [List.getElem_toArray, List.getElem_cons_succ, List.getElem_cons_zero, Act.put, List.setIfInBounds_toArray, List.set_cons_zero, List.set_cons_succ]
    refine wpAnyU_one (i := 6) (by kernel_rfl) rfl (fun K hK => ?_)
    rw [if_pos (by rfl)]
    simp only [List.getElem_toArray, List.getElem_cons_succ, List.getElem_cons_zero]
    simp (config := {maxSteps := 3000000}) [go_sem]
    with_reducible refine hsm.mono ?_
    rintro e w13 ⟨bs, rfl, hbs, hb13⟩
    obtain rfl : bs = true := hbs.2 rfl
    have HB13 : Hid (Below w12.heap.size w12 w13) := Lib.hid (Below.undrew hb13)
    have Q13 := Lib.hid (Q12.out.below HB13.out Q12.out.lt)
    have hln := len_any (HIN12.out.on HB13.out).syms
    rw [HLL.out, show ((ma + 1 : Nat) : Int) - 1 = (ma : Int) by omega] at hln
    clear hsm hbs hb13
    go_simp
    replace hS := And.intro (Q13.out.cell 0) (And.intro (Q13.out.cell 1) (Q13.out.cell 2))
    refine hK _ _ (Or.inr hS) ?_
    clear hK K
    try simp only [Array.getInternal_eq_getElem, List.getElem_toArray, List.getElem_cons_succ, List.getElem_cons_zero, Act.put, List.setIfInBounds_toArray, List.set_cons_zero, List.set_cons_succ]
    refine wpAnyU_pure (i := 7) (v := ?_) rfl (by kernel_rfl) (by kernel_rfl) (by kernel_rfl) (fun _ _ _ h => h) (by kernel_rfl) (Or.inl ⟨by rfl, ?_⟩) (Or.inr hS) ?_
    rotate_left
    · (intro w _; go_simp; try with_reducible rfl)
    try simp only [List.getElem_toArray, List.getElem_cons_succ, List.getElem_cons_zero, Act.put, List.setIfInBounds_toArray, List.set_cons_zero, List.set_cons_succ]
    refine wpAnyU_pure (i := 8) (v := ?_) rfl (by kernel_rfl) (by kernel_rfl) (by kernel_rfl) (fun _ _ _ h => h) (by kernel_rfl) (Or.inl ⟨by rfl, ?_⟩) (Or.inr hS) ?_
    rotate_left
    · (intro w _; go_simp; try with_reducible rfl)
    try simp only [List.getElem_toArray, List.getElem_cons_succ, List.getElem_cons_zero, Act.put, List.setIfInBounds_toArray, List.set_cons_zero, List.set_cons_succ]
    refine wpAnyU_pure (i := 9) (v := ?_) rfl (by kernel_rfl) (by kernel_rfl) (by kernel_rfl) (fun _ _ _ h => h) (by kernel_rfl) (Or.inl ⟨by rfl, ?_⟩) (Or.inr hS) ?_
    rotate_left
    · (intro w _; go_simp; try with_reducible rfl)
    try simp only [List.getElem_toArray, List.getElem_cons_succ, List.getElem_cons_zero, Act.put, List.setIfInBounds_toArray, List.set_cons_zero, List.set_cons_succ]
    refine wpAnyU_pure (i := 10) (v := ?_) rfl (by kernel_rfl) (by kernel_rfl) (by kernel_rfl) (fun _ _ _ h => h) (by kernel_rfl) (Or.inl ⟨by rfl, ?_⟩) (Or.inr hS) ?_
    rotate_left
    · (intro w _; go_simp; try with_reducible rfl)
    try simp only [List.getElem_toArray, List.getElem_cons_succ, List.getElem_cons_zero, Act.put, List.setIfInBounds_toArray, List.set_cons_zero, List.set_cons_succ]
    refine wpAnyU_take (i := 11) (v := ?_) rfl (by kernel_rfl) (by kernel_rfl) (by kernel_rfl) (fun _ _ _ h => h) (by kernel_rfl) (Or.inl ⟨by rfl, ?_⟩) hS ?_
    rotate_left
    · (intro w hS; obtain ⟨s1, s2, s3⟩ := hS; go_simp; try with_reducible rfl)
    try simp only [List.getElem_toArray, List.getElem_cons_succ, List.getElem_cons_zero, Act.put, List.setIfInBounds_toArray, List.set_cons_zero, List.set_cons_succ]
    refine wpAnyU_pure (i := 12) (v := ?_) rfl (by kernel_rfl) (by kernel_rfl) (by kernel_rfl) (fun _ _ _ h => h) (by kernel_rfl) (Or.inl ⟨by rfl, ?_⟩) (Or.inr hS) ?_
    rotate_left
    · (intro w _; go_simp; try with_reducible rfl)
    try simp only [List.getElem_toArray, List.getElem_cons_succ, List.getElem_cons_zero, Act.put, List.setIfInBounds_toArray, List.set_cons_zero, List.set_cons_succ]
    refine wpAnyU_pure (i := 13) (v := ?_) rfl (by kernel_rfl) (by kernel_rfl) (by kernel_rfl) (fun _ _ _ h => h) (by kernel_rfl) (Or.inl ⟨by rfl, ?_⟩) (Or.inr hS) ?_
    rotate_left
    · (intro w _; go_simp; try with_reducible rfl)
    try simp only [List.getElem_toArray, List.getElem_cons_succ, List.getElem_cons_zero, Act.put, List.setIfInBounds_toArray, List.set_cons_zero, List.set_cons_succ]
    refine wpAnyU_pure (i := 14) (v := ?_) rfl (by kernel_rfl) (by kernel_rfl) (by kernel_rfl) (fun _ _ _ h => h) (by kernel_rfl) (Or.inl ⟨by rfl, ?_⟩) (Or.inr hS) ?_
    rotate_left
    · (intro w _; go_simp; try with_reducible rfl)
    try simp only [List.getElem_toArray, List.getElem_cons_succ, List.getElem_cons_zero, Act.put, List.setIfInBounds_toArray, List.set_cons_zero, List.set_cons_succ]
    refine wpAnyU_pure (i := 17) (v := ?_) rfl (by kernel_rfl) (by kernel_rfl) (by kernel_rfl) (fun _ _ _ h => h) (by kernel_rfl) (Or.inl ⟨by rfl, ?_⟩) (Or.inr hS) ?_
    rotate_left
    · (intro w _; go_simp; try with_reducible rfl)
    try simp only [List.getElem_toArray, List.getElem_cons_succ, List.getElem_cons_zero, Act.put, List.setIfInBounds_toArray, List.set_cons_zero, List.set_cons_succ]
    refine wpAnyU_one (i := 15) (by kernel_rfl) rfl (fun K hK => ?_)
    rw [if_pos (by rfl)]
    simp only [List.getElem_toArray, List.getElem_cons_succ, List.getElem_cons_zero]
    simp (config := {maxSteps := 3000000}) [go_sem]
    with_reducible refine hln.mono ?_
    rintro e w' ⟨rfl, rfl⟩
    clear hln
    have hst := steps_any (w := w13) (PA := x.A) (pcap := x.c) (st := x.st) (c := cc) (pl := pl) (k := ks) HN2.out.1 ⟨HX.out.1.pg.le, HX.out.1.pg.max⟩ (by have := HOK.out.2.2.2.2.2.1; omega) (by rw [HPL.out]; have := HML.out; have := HCA.out.2; omega) (by rw [HPL.out]; exact HSL.out)
    go_simp
    replace hS := hS
    refine hK _ _ (Or.inr hS) ?_
    clear hK K
    try simp only [Array.getInternal_eq_getElem, List.getElem_toArray, List.getElem_cons_succ, List.getElem_cons_zero, Act.put, List.setIfInBounds_toArray, List.set_cons_zero, List.set_cons_succ]
    refine wpAnyU_pure (i := 16) (v := ?_) rfl (by kernel_rfl) (by kernel_rfl) (by kernel_rfl) (fun _ _ _ h => h) (by kernel_rfl) (Or.inl ⟨by rfl, ?_⟩) (Or.inr hS) ?_
    rotate_left
    · (intro w _; go_simp; try with_reducible rfl)
    try simp only [List.getElem_toArray, List.getElem_cons_succ, List.getElem_cons_zero, Act.put, List.setIfInBounds_toArray, List.set_cons_zero, List.set_cons_succ]
    refine wpAnyU_one (i := 18) (by kernel_rfl) rfl (fun K hK => ?_)
    rw [if_pos (by rfl)]
    simp only [List.getElem_toArray, List.getElem_cons_succ, List.getElem_cons_zero]
    simp (config := {maxSteps := 3000000}) [go_sem]
    with_reducible refine hst.mono ?_
    rintro e w14 ⟨rfl, hb14⟩
    have HB14 := Lib.hid (HB13.out.onto hb14)
    have Q14 := Lib.hid (Q13.out.below hb14 Q13.out.lt)
    clear hst hb14
    go_simp
    replace hS := And.intro (Q14.out.cell 0) (And.intro (Q14.out.cell 1) (Q14.out.cell 2))
    refine hK _ _ (Or.inr hS) ?_
    clear hK K
    try simp only [Array.getInternal_eq_getElem, List.getElem_toArray, List.getElem_cons_succ, List.getElem_cons_zero, Act.put, List.setIfInBounds_toArray, List.set_cons_zero, List.set_cons_succ]
    refine wpAnyU_pure (i := 19) (v := ?_) rfl (by kernel_rfl) (by kernel_rfl) (by kernel_rfl) (fun _ _ _ h => h) (by kernel_rfl) (Or.inl ⟨by rfl, ?_⟩) (Or.inr hS) ?_
    rotate_left
    · (intro w _; go_simp; try with_reducible rfl)
    try simp only [List.getElem_toArray, List.getElem_cons_succ, List.getElem_cons_zero, Act.put, List.setIfInBounds_toArray, List.set_cons_zero, List.set_cons_succ]
    refine wpAnyU_pure (i := 20) (v := ?_) rfl (by kernel_rfl) (by kernel_rfl) (by kernel_rfl) (fun _ _ _ h => h) (by kernel_rfl) (Or.inl ⟨by rfl, ?_⟩) (Or.inr hS) ?_
    rotate_left
    · (intro w _; go_simp; try with_reducible rfl)
    try simp only [List.getElem_toArray, List.getElem_cons_succ, List.getElem_cons_zero, Act.put, List.setIfInBounds_toArray, List.set_cons_zero, List.set_cons_succ]
    refine wpAnyU_done (by kernel_rfl) ?_ _
    clear hS
    have HM14 := Lib.hid (HM12.out.on HB14.out)
    have HBI14 := Lib.hid (HBI.out.went ((Went.refl _ _ _ _).below HB14.out))
    clear HBI HBF HIN12 HM12 Q12 Q13 Q14 HB13 HIL1 HFL hne hpw
    obtain ⟨a3, k3, e3, he3, _, hfl3⟩ := HBI14.out.slice2
    obtain ⟨rfl, rfl, rfl⟩ : a1 = a3 ∧ k1 = k3 ∧ e1 = e3 := by injection he3 with h1 h2 h3; exact ⟨h1, h2, h3⟩
    clear HBI14
    have HST : Hid (Mx w w14 g E1 E2 ∧ (0 < k1 → ∃ gB cs, a1 = some ⟨gB, 0, none⟩ ∧ w.heap.size ≤ gB ∧ ¬ Ft g E1 E2 gB ∧ Blk w14 gB 3 cs ∧ ∀ i, i < k1 → ∃ u, cs[i]? = some (.int .i64 u))) := Lib.hid (by
      refine ⟨HM14.out, fun hk0 => ?_⟩
      rcases hfl3 with ⟨_, _, h0, _⟩ | ⟨_, gB, cs, h1, h2, h3, h4, h5⟩ | ⟨h0, _⟩
      · omega
      · exact ⟨gB, cs, h1, Nat.le_trans HZ7.out h2, h3, h4, h5⟩
      · omega)
    clear hfl3 HM14 he3 HB14 HZ7 HPL HSL HOK HX HSX HCA HN2 HLL HML
    go_wp2_with fail
    go_loopg [13] (k1 + 1) (fun q i wr => ∃ (k : Nat), q = k1 + 1 - k ∧ k ≤ k1 ∧ i = .int .i64 (k : Int) ∧ Hid (Mx w wr g E1 E2 ∧ (0 < k1 → ∃ gB cs, a1 = some ⟨gB, 0, none⟩ ∧ w.heap.size ≤ gB ∧ ¬ Ft g E1 E2 gB ∧ Blk wr gB 3 cs ∧ ∀ i, i < k1 → ∃ u, cs[i]? = some (.int .i64 u))))
    case atStart => exact ⟨0, rfl, Nat.zero_le _, rfl, HST⟩
    case round =>
      obtain ⟨k, hgk2, hkk, rfl, HQ⟩ := hrel
      have HG2 := Lib.hid hgk2
      clear hgk2 HST
      by_cases hkl : k < k1
      · have hki : (k : Int) < (k1 : Int) := by omega
        obtain ⟨gB, cs, rfl, hgB, hgz, hB, hcs⟩ := HQ.out.2 (by omega)
        obtain ⟨u, hu⟩ := hcs k hkl
        obtain ⟨u1, hu1⟩ : ∃ u1, IntKind.i64.wrap (u + 1) = u1 := ⟨_, rfl⟩
        have r1 : wr.cell? ⟨gB, k, none⟩ = some (.int .i64 u) := by rw [hB.cell]; exact hu
        have r2 := hB.frozen k
        have HQ2 : Hid (Mx w (wr.setCell ⟨gB, k, none⟩ (.int .i64 u1)) g E1 E2 ∧ (0 < k1 → ∃ gC ds, some (⟨gB, 0, none⟩ : Addr) = some ⟨gC, 0, none⟩ ∧ w.heap.size ≤ gC ∧ ¬ Ft g E1 E2 gC ∧ Blk (wr.setCell ⟨gB, k, none⟩ (.int .i64 u1)) gC 3 ds ∧ ∀ i, i < k1 → ∃ u, ds[i]? = some (.int .i64 u))) := Lib.hid (by
          refine ⟨HQ.out.1.poke hB hgz hgB k u1, fun _ => ⟨gB, _, rfl, hgB, hgz, hB.set k _, fun i hi => ?_⟩⟩
          by_cases hik : k = i
          · subst hik
            exact ⟨u1, Array.getElem?_setIfInBounds_self_of_lt (Array.getElem?_eq_some_iff.1 hu).1⟩
          · obtain ⟨y, hy⟩ := hcs i hi
            exact ⟨y, by rw [Array.getElem?_setIfInBounds_ne hik]; exact hy⟩)
        have HKL := Lib.hid hkl
        have HKK := Lib.hid hkk
        clear hgB hgz hB hcs hu hkl hkk
        go_wp2_with fail
        go_roundg (k1 + 1 - (k + 1))
        case measure => have := HG2.out; have := HKL.out; omega
        case rel => exact ⟨k + 1, rfl, by have := HKL.out; omega, by go_num, HQ2⟩
      · have hki : ¬ (k : Int) < (k1 : Int) := by omega
        go_wp2_with fail
        go_roundg (m + 1 - (j + 1))
        case measure => have := HG.out; have := HLT.out; omega
        case rel => exact ⟨j + 1, E1, E2, rfl, by have := HLT.out; omega, by go_num, Lib.hid HQ.out.1⟩
end Go.Proofs.YtbhcgjahlfpjoaaDoor
