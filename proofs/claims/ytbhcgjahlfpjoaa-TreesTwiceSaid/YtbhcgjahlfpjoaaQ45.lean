/- TreesTurned: the law's walk. -/
import Derived.Test.YtbhcgjahlfpjoaaQ19
import Derived.Test.YtbhcgjahlfpjoaaQ31
import Derived.Test.YtbhcgjahlfpjoaaQC
namespace Go.Proofs.Ytbhcgjahlfpjoaa
open Go.RowKit

theorem Tr.partsL_map {l : List Tr} {f : Tr → Tr} (h : ∀ k ∈ l, (f k).parts ≤ k.parts) : Tr.partsL (l.map f) ≤ Tr.partsL l := by
  induction l with
  | nil => exact Nat.le_refl _
  | cons k l ih =>
    have h1 := h k (List.mem_cons_self ..)
    have h2 := ih fun x hx => h x (List.mem_cons_of_mem _ hx)
    rw [List.map_cons, Tr.partsL, Tr.partsL]
    omega
theorem Tr.partsL_rev (l : List Tr) : Tr.partsL l.reverse = Tr.partsL l := by
  induction l with
  | nil => rfl
  | cons k l ih => rw [List.reverse_cons, Tr.partsL_app, ih, Tr.partsL_one, Tr.partsL]; omega
theorem Tr.turn_parts {t : Tr} (h : OneP t) : t.turn.parts ≤ t.parts := by
  induction t using Tr.ind with
  | h t ih =>
    rw [Tr.turn_eq, t.parts_eq]
    by_cases h6 : t.op = 6
    · obtain ⟨k, hk⟩ := h.self h6
      rw [if_pos h6, hk]
      have h1 := ih k (by rw [hk]; simp) (h.kid (by rw [hk]; simp))
      rw [Tr.partsL_one]
      show k.turn.parts ≤ _
      omega
    · rw [if_neg h6, Tr.parts_eq]
      dsimp only
      have h1 := Tr.partsL_map (l := t.kids) (f := Tr.turn) fun k hk => ih k hk (h.kid hk)
      split
      · rw [Tr.partsL_rev]; omega
      · omega
/-- What a tree, or what is none, is turned to. -/
def TurnIs (t t' : Tr) : Prop := (RightP t → t' = t.turn) ∧ (¬ RightP t → t' = zT)
theorem TurnIs.same {t a b : Tr} (h : TurnIs t a) (h' : TurnIs t b) : a = b := by
  by_cases hr : RightP t
  · rw [h.1 hr, h'.1 hr]
  · rw [h.2 hr, h'.2 hr]
theorem TurnIs.parts {t a : Tr} (h : TurnIs t a) (hp : t.parts ≤ 20000) : a.parts ≤ 20000 := by
  by_cases hr : RightP t
  · rw [h.1 hr]; exact Nat.le_trans (Tr.turn_parts hr.one) hp
  · rw [h.2 hr]; decide
theorem TurnedB.one {t : Tr} {m0 : Nat} {w w' : World} {e : Ending} (h : TurnedB t m0 w e w') : ∃ t', TurnIs t t' ∧ BuiltB t' m0 w e w' := by
  rcases h with ⟨h1, h2⟩ | ⟨h1, h2⟩
  · exact ⟨_, ⟨fun _ => rfl, fun h => absurd h1 h⟩, h2⟩
  · exact ⟨_, ⟨fun h => absurd h h1, fun _ => rfl⟩, h2⟩
set_option maxRecDepth 20000 in
set_option maxHeartbeats 4000000 in
theorem treesTurned_walk {w : World} {t : Tr} {kA : Option Addr} {kn kc : Nat} {sA : Option Addr} {sn sc : Nat} (hT : TIn w t ⟨kA, kn, kc, sA, sn, sc⟩) : Calls Try.prog 8 #[.agg #[.int .i64 t.op, .slice kA kn kc, .int .i32 t.rune, .slice sA sn sc, .int .i64 t.at_, .int .i64 t.cap, .string t.name, .int .i64 t.mn, .int .i64 t.mx, .bool t.lzy]] w fun e w' => e = .returned (.bool true) ∧ Below w.heap.size w w' := by
  have hb : Below w.heap.size w (w.alloc (.cells #[.int .i64 t.op, .slice kA kn kc, .int .i32 t.rune, .slice sA sn sc, .int .i64 t.at_, .int .i64 t.cap, .string t.name, .int .i64 t.mn, .int .i64 t.mx, .bool t.lzy] 27)) := (Below.refl _ _).alloc (Nat.le_refl _) _
  have hB := TBox.newV w t kA kn kc sA sn sc
  have HT := Lib.hid (hT.on hb)
  have HB := Lib.hid hb
  have HBX := Lib.hid hB
  clear hb hB hT
  go_enter Try.func8, Try.ntmps8
  go_wp2_with fail
  generalize w.alloc (.cells #[.int .i64 t.op, .slice kA kn kc, .int .i32 t.rune, .slice sA sn sc, .int .i64 t.at_, .int .i64 t.cap, .string t.name, .int .i64 t.mn, .int .i64 t.mx, .bool t.lzy] 27) = w0 at HB HBX HT ⊢
  refine (head05_any _).mono ?_
  rintro e _ ⟨rfl, hb1⟩
  replace HT := Lib.hid (HT.out.on hb1)
  replace HBX := Lib.hid (HBX.out.below hb1)
  replace HB := Lib.hid (HB.out.trans (hb1.mono HB.out.size))
  clear hb1
  have h10 := HBX.out.ten
  have k0 := h10.c0
  have k1 := h10.c1
  have k2 := h10.c2
  have k3 := h10.c3
  have k4 := h10.c4
  have k5 := h10.c5
  have k6 := h10.c6
  have k7 := h10.c7
  have k8 := h10.c8
  have k9 := h10.c9
  dsimp only at k1 k3
  clear h10
  go_wp2_with fail
  refine (great_any HT.out).mono ?_
  rintro e _ ⟨b, rfl, hg, hb1⟩
  have HG := Lib.hid hg
  replace HT := Lib.hid (HT.out.on hb1)
  replace HBX := Lib.hid (HBX.out.below hb1)
  replace HB := Lib.hid (HB.out.trans (hb1.mono HB.out.size))
  clear hb1 hg k0 k1 k2 k3 k4 k5 k6 k7 k8 k9
  cases b with
  | true =>
    go_wp2_with fail
    go_ret
    exact ⟨rfl, HB.out⟩
  | false =>
  have HP := Lib.hid (HG.out rfl)
  clear HG
  have h10 := HBX.out.ten
  have k0 := h10.c0
  have k1 := h10.c1
  have k2 := h10.c2
  have k3 := h10.c3
  have k4 := h10.c4
  have k5 := h10.c5
  have k6 := h10.c6
  have k7 := h10.c7
  have k8 := h10.c8
  have k9 := h10.c9
  dsimp only at k1 k3
  clear h10
  go_wp2_with fail
  refine (copied_any t HT.out (Below.refl _ _) HP.out).mono ?_
  rintro e w5 ⟨⟨cA, cn, cc, eA, en, ec⟩, rfl, hz, hb5⟩
  have hO := TBox.newV w5 t cA cn cc eA en ec
  have ha : Below w5.heap.size w5 (w5.alloc (.cells #[.int .i64 t.op, .slice cA cn cc, .int .i32 t.rune, .slice eA en ec, .int .i64 t.at_, .int .i64 t.cap, .string t.name, .int .i64 t.mn, .int .i64 t.mx, .bool t.lzy] 27)) := (Below.refl _ _).alloc (Nat.le_refl _) _
  have hb6 := hb5.trans (ha.mono hb5.size)
  replace HT := Lib.hid (HT.out.on hb6)
  replace HBX := Lib.hid (HBX.out.below hb6)
  replace HB := Lib.hid (HB.out.trans (hb6.mono HB.out.size))
  have HO := Lib.hid (hz.tin.on ha)
  have HOX := Lib.hid hO
  clear hz hb5 hb6 ha hO k0 k1 k2 k3 k4 k5 k6 k7 k8 k9
  simp only [Tr.cells]
  go_upto_region 5 with fail
  obtain ⟨go, hgo⟩ : ∃ go, w5.heap.size = go := ⟨_, rfl⟩
  rw [hgo] at HOX ⊢
  clear hgo
  generalize w5.alloc (.cells #[.int .i64 t.op, .slice cA cn cc, .int .i32 t.rune, .slice eA en ec, .int .i64 t.at_, .int .i64 t.cap, .string t.name, .int .i64 t.mn, .int .i64 t.mx, .bool t.lzy] 27) = w6 at HT HBX HB HO HOX ⊢
  replace HT := Lib.hid (HT.out.on (Below.refl _ w6).drew)
  replace HBX := Lib.hid (HBX.out.below (Below.refl _ w6).drew)
  replace HO := Lib.hid (HO.out.on (Below.refl _ w6).drew)
  replace HOX := Lib.hid (HOX.out.below (Below.refl _ w6).drew)
  replace HB := Lib.hid HB.out.drew
  have hS : (fun w' => (w'.cell? ⟨w.heap.size, 0, none⟩ = some (.int .i64 t.op) ∧ w'.cell? ⟨w.heap.size, 1, none⟩ = some (.slice kA kn kc) ∧ w'.cell? ⟨w.heap.size, 2, none⟩ = some (.int .i32 t.rune) ∧ w'.cell? ⟨w.heap.size, 3, none⟩ = some (.slice sA sn sc) ∧ w'.cell? ⟨w.heap.size, 4, none⟩ = some (.int .i64 t.at_) ∧ w'.cell? ⟨w.heap.size, 5, none⟩ = some (.int .i64 t.cap) ∧ w'.cell? ⟨w.heap.size, 6, none⟩ = some (.string t.name) ∧ w'.cell? ⟨w.heap.size, 7, none⟩ = some (.int .i64 t.mn) ∧ w'.cell? ⟨w.heap.size, 8, none⟩ = some (.int .i64 t.mx) ∧ w'.cell? ⟨w.heap.size, 9, none⟩ = some (.bool t.lzy)) ∧ (w'.cell? ⟨go, 0, none⟩ = some (.int .i64 t.op) ∧ w'.cell? ⟨go, 1, none⟩ = some (.slice cA cn cc) ∧ w'.cell? ⟨go, 2, none⟩ = some (.int .i32 t.rune) ∧ w'.cell? ⟨go, 3, none⟩ = some (.slice eA en ec) ∧ w'.cell? ⟨go, 4, none⟩ = some (.int .i64 t.at_) ∧ w'.cell? ⟨go, 5, none⟩ = some (.int .i64 t.cap) ∧ w'.cell? ⟨go, 6, none⟩ = some (.string t.name) ∧ w'.cell? ⟨go, 7, none⟩ = some (.int .i64 t.mn) ∧ w'.cell? ⟨go, 8, none⟩ = some (.int .i64 t.mx) ∧ w'.cell? ⟨go, 9, none⟩ = some (.bool t.lzy))) w6.drew := And.intro HBX.out.conj HOX.out.conj
  refine wp_region_T (S := fun w' => (w'.cell? ⟨w.heap.size, 0, none⟩ = some (.int .i64 t.op) ∧ w'.cell? ⟨w.heap.size, 1, none⟩ = some (.slice kA kn kc) ∧ w'.cell? ⟨w.heap.size, 2, none⟩ = some (.int .i32 t.rune) ∧ w'.cell? ⟨w.heap.size, 3, none⟩ = some (.slice sA sn sc) ∧ w'.cell? ⟨w.heap.size, 4, none⟩ = some (.int .i64 t.at_) ∧ w'.cell? ⟨w.heap.size, 5, none⟩ = some (.int .i64 t.cap) ∧ w'.cell? ⟨w.heap.size, 6, none⟩ = some (.string t.name) ∧ w'.cell? ⟨w.heap.size, 7, none⟩ = some (.int .i64 t.mn) ∧ w'.cell? ⟨w.heap.size, 8, none⟩ = some (.int .i64 t.mx) ∧ w'.cell? ⟨w.heap.size, 9, none⟩ = some (.bool t.lzy)) ∧ (w'.cell? ⟨go, 0, none⟩ = some (.int .i64 t.op) ∧ w'.cell? ⟨go, 1, none⟩ = some (.slice cA cn cc) ∧ w'.cell? ⟨go, 2, none⟩ = some (.int .i32 t.rune) ∧ w'.cell? ⟨go, 3, none⟩ = some (.slice eA en ec) ∧ w'.cell? ⟨go, 4, none⟩ = some (.int .i64 t.at_) ∧ w'.cell? ⟨go, 5, none⟩ = some (.int .i64 t.cap) ∧ w'.cell? ⟨go, 6, none⟩ = some (.string t.name) ∧ w'.cell? ⟨go, 7, none⟩ = some (.int .i64 t.mn) ∧ w'.cell? ⟨go, 8, none⟩ = some (.int .i64 t.mx) ∧ w'.cell? ⟨go, 9, none⟩ = some (.bool t.lzy))) (t := 6) (by kernel_rfl) ?_
  refine wpAnyT_take (i := 0) (v := ?_) rfl (by kernel_rfl) (by kernel_rfl) (by kernel_rfl) (fun _ _ _ h => h) (by kernel_rfl) (Or.inl ⟨by rfl, ?_⟩) hS ?_
  rotate_left
  · (intro w hS; obtain ⟨⟨s0, s1, s2, s3, s4, s5, s6, s7, s8, s9⟩, r0, r1, r2, r3, r4, r5, r6, r7, r8, r9⟩ := hS; go_simp; try with_reducible rfl)
  try simp only [List.getElem_toArray, List.getElem_cons_zero, Act.put, List.setIfInBounds_toArray, List.set_cons_zero, List.set_cons_succ]
  refine wpAnyT_take (i := 2) (v := ?_) rfl (by kernel_rfl) (by kernel_rfl) (by kernel_rfl) (fun _ _ _ h => h) (by kernel_rfl) (Or.inl ⟨by rfl, ?_⟩) hS ?_
  rotate_left
  · (intro w hS; obtain ⟨⟨s0, s1, s2, s3, s4, s5, s6, s7, s8, s9⟩, r0, r1, r2, r3, r4, r5, r6, r7, r8, r9⟩ := hS; go_simp; try with_reducible rfl)
  try simp only [List.getElem_toArray, List.getElem_cons_succ, List.getElem_cons_zero, Act.put, List.setIfInBounds_toArray, List.set_cons_zero, List.set_cons_succ]
  refine wpAnyT_one (i := 1) (by kernel_rfl) rfl (fun K hK => ?_)
  go_simp
  refine (pTurned_any HO.out (Below.refl _ _) HP.out).mono ?_
  rintro e w5 hq
  obtain ⟨t1, hi1, ⟨xA, xn, xc, yA, yn, yc⟩, rfl, hz, hb5⟩ := hq.one
  replace HT := Lib.hid (HT.out.on hb5)
  replace HBX := Lib.hid (HBX.out.below hb5)
  replace HO := Lib.hid (HO.out.on hb5)
  replace HOX := Lib.hid (HOX.out.below hb5)
  replace HB := Lib.hid (HB.out.trans (hb5.mono HB.out.size))
  have HI1 := Lib.hid hi1
  have HT1 := Lib.hid hz.tin
  clear hq hi1 hz hb5
  simp only [Tr.cells]
  go_simp
  replace hS := And.intro HBX.out.conj HOX.out.conj
  refine hK _ _ (Or.inr hS) ?_
  clear hK K
  try simp only [Array.getInternal_eq_getElem, List.getElem_toArray, List.getElem_cons_succ, List.getElem_cons_zero, Act.put, List.setIfInBounds_toArray, List.set_cons_zero, List.set_cons_succ]
  refine wpAnyT_one (i := 3) (by kernel_rfl) rfl (fun K hK => ?_)
  go_simp
  refine (rTurned_any HT.out (Below.refl _ _) HP.out).mono ?_
  rintro e w6 hq
  obtain ⟨t2, hi2, ⟨lA, ln, lc, mA, mn, mc⟩, rfl, hz, hb6⟩ := hq.one
  replace HT := Lib.hid (HT.out.on hb6)
  replace HBX := Lib.hid (HBX.out.below hb6)
  replace HO := Lib.hid (HO.out.on hb6)
  replace HOX := Lib.hid (HOX.out.below hb6)
  replace HT1 := Lib.hid (HT1.out.on hb6)
  replace HB := Lib.hid (HB.out.trans (hb6.mono HB.out.size))
  obtain rfl : t1 = t2 := HI1.out.same hi2
  have HT2 := Lib.hid hz.tin
  clear hq hi2 hz hb6
  simp only [Tr.cells]
  go_simp
  replace hS := And.intro HBX.out.conj HOX.out.conj
  refine hK _ _ (Or.inr hS) ?_
  clear hK K
  try simp only [Array.getInternal_eq_getElem, List.getElem_toArray, List.getElem_cons_succ, List.getElem_cons_zero, Act.put, List.setIfInBounds_toArray, List.set_cons_zero, List.set_cons_succ]
  refine wpAnyT_one (i := 4) (by kernel_rfl) rfl (fun K hK => ?_)
  go_simp
  refine (rsame_yes t1 HT1.out HT2.out (HI1.out.parts HP.out)).mono ?_
  rintro e w7 ⟨rfl, hb7⟩
  replace HT := Lib.hid (HT.out.on hb7)
  replace HBX := Lib.hid (HBX.out.below hb7)
  replace HO := Lib.hid (HO.out.on hb7)
  replace HOX := Lib.hid (HOX.out.below hb7)
  replace HB := Lib.hid (HB.out.trans (hb7.mono HB.out.size))
  clear hb7 HT1 HT2 HI1
  go_simp
  replace hS := And.intro HBX.out.conj HOX.out.conj
  refine hK _ _ (Or.inr hS) ?_
  clear hK K
  try simp only [Array.getInternal_eq_getElem, List.getElem_toArray, List.getElem_cons_succ, List.getElem_cons_zero, Act.put, List.setIfInBounds_toArray, List.set_cons_zero, List.set_cons_succ]
  refine wpAnyT_take (i := 5) (v := ?_) rfl (by kernel_rfl) (by kernel_rfl) (by kernel_rfl) (fun _ _ _ h => h) (by kernel_rfl) (Or.inl ⟨by rfl, ?_⟩) hS ?_
  rotate_left
  · (intro w _; go_simp; try with_reducible rfl)
  try simp only [List.getElem_toArray, List.getElem_cons_succ, List.getElem_cons_zero, Act.put, List.setIfInBounds_toArray, List.set_cons_zero, List.set_cons_succ]
  refine wpAnyT_done (by kernel_rfl) ?_ _
  clear hS
  have h10 := HBX.out.ten
  have k0 := h10.c0
  have k1 := h10.c1
  have k2 := h10.c2
  have k3 := h10.c3
  have k4 := h10.c4
  have k5 := h10.c5
  have k6 := h10.c6
  have k7 := h10.c7
  have k8 := h10.c8
  have k9 := h10.c9
  have j10 := HOX.out.ten
  have j0 := j10.c0
  have j1 := j10.c1
  have j2 := j10.c2
  have j3 := j10.c3
  have j4 := j10.c4
  have j5 := j10.c5
  have j6 := j10.c6
  have j7 := j10.c7
  have j8 := j10.c8
  have j9 := j10.c9
  dsimp only at k1 k3 j1 j3
  clear h10 j10
  go_wp2_with fail
  refine (rsame_yes t HO.out HT.out HP.out).mono ?_
  rintro e w8 ⟨rfl, hb8⟩
  replace HB := Lib.hid (HB.out.trans (hb8.mono HB.out.size))
  clear hb8
  go_wp2_with fail
  go_ret
  exact ⟨rfl, HB.out⟩
end Go.Proofs.Ytbhcgjahlfpjoaa
