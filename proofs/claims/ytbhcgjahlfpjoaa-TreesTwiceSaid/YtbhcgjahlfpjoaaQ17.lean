/- The groups of a tree: the reference's Groups: the walk. -/
import Derived.Test.YtbhcgjahlfpjoaaQ13
import Derived.Test.YtbhcgjahlfpjoaaQ10
import Derived.Deep.Onto
namespace Go.Proofs.Ytbhcgjahlfpjoaa
open Go.RowKit

theorem elTr : ElemOK Try.prog 23 27 10 120 := .mk' (z := .agg #[.int .i64 0, .slice none 0 0, .int .i32 0, .slice none 0 0, .int .i64 0, .int .i64 0, .string ⟨#[]⟩, .int .i64 0, .int .i64 0, .bool false]) Try.underlying23 (by kernel_rfl) rfl (by decide)
theorem ownKept {w w' : World} {base : Nat} {e : TypeId} {size n : Nat} {v : Value} {xs : List Value} (h : w.ownsRow base e size v n xs) (hb : Below w.heap.size w w') : w'.ownsRow base e size v n xs :=
  h.kept (show w.grownBy w' none from ⟨hb.os, hb.tape, hb.output, hb.size, fun k hk _ => hb.block k hk⟩) (by cases v.ownBlock <;> simp)
/-- The cells of trees. -/
def tcells (l : List (Tr × TA)) : List Value := l.flatMap fun x => x.1.cells x.2
theorem tcells_len (l : List (Tr × TA)) : (tcells l).length = l.length * 10 := by
  induction l with
  | nil => rfl
  | cons x l ih => rw [tcells, List.flatMap_cons, List.length_append, List.length_cons, show (l.flatMap fun x => x.1.cells x.2) = tcells l from rfl, ih]; simp [Tr.cells]; omega
theorem tcells_append (a b : List (Tr × TA)) : tcells (a ++ b) = tcells a ++ tcells b := by simp [tcells]
theorem tcells_one (l : List (Tr × TA)) : ∀ u ∈ tcells l, u.oneCell' = true := fun u hu => by
  obtain ⟨x, _, hx⟩ := List.mem_flatMap.1 hu
  simp only [Tr.cells, List.mem_cons, List.not_mem_nil, or_false] at hx
  rcases hx with rfl | rfl | rfl | rfl | rfl | rfl | rfl | rfl | rfl | rfl <;> rfl
/-- What Groups tells: the groups, with where their lists lie, in new memory. -/
def GroupsB (t : Tr) (ws w : World) (e : Ending) (w' : World) : Prop :=
  ∃ (ys : List (Tr × TA)) (B : Option Addr) (d : Nat), ys.map (·.1) = grp t.all ∧ (∀ y ∈ ys, TIn ws y.1 y.2) ∧ e = .returned (.slice B ys.length d) ∧ w'.ownsRow w.heap.size 27 10 (.slice B ys.length d) ys.length (tcells ys) ∧ Below w.heap.size w w'
theorem Tr.all_lenG (t : Tr) : t.all.length ≤ t.parts := Tr.ind (P := fun t => t.all.length ≤ t.parts) (fun t ih => by
  have key : ∀ l : List Tr, (∀ k ∈ l, k.all.length ≤ k.parts) → (Tr.allL l).length ≤ Tr.partsL l := by
    intro l
    induction l with
    | nil => intro _; simp [Tr.allL]
    | cons k l ihl =>
      intro h
      have h1 := h k (List.mem_cons_self ..)
      have h2 := ihl fun k hk => h k (List.mem_cons_of_mem _ hk)
      rw [Tr.allL, Tr.partsL, List.length_append]
      omega
  have := key t.kids ih
  rw [Tr.all_eq, Tr.parts_eq, List.length_cons]
  omega) t
theorem Tr.allL_lenG : ∀ l : List Tr, (Tr.allL l).length ≤ Tr.partsL l
  | [] => by simp [Tr.allL]
  | k :: l => by
    have h1 := k.all_lenG
    have h2 := Tr.allL_lenG l
    rw [Tr.allL, Tr.partsL, List.length_append]
    omega
theorem grp_parts (l : List Tr) : (grp (Tr.allL l)).length ≤ Tr.partsL l := by
  have h1 := grp_len (Tr.allL l)
  have h2 : (Tr.allL l).length ≤ Tr.partsL l := Tr.allL_lenG l
  omega
set_option maxRecDepth 20000 in
set_option maxHeartbeats 4000000 in
theorem rgroups_any : ∀ (t : Tr) {ws w : World} {kA : Option Addr} {kn kc : Nat} {sA : Option Addr} {sn sc : Nat}, TIn ws t ⟨kA, kn, kc, sA, sn, sc⟩ → Below ws.heap.size ws w → t.parts ≤ 20000 → Calls Try.prog 60 #[.agg #[.int .i64 t.op, .slice kA kn kc, .int .i32 t.rune, .slice sA sn sc, .int .i64 t.at_, .int .i64 t.cap, .string t.name, .int .i64 t.mn, .int .i64 t.mx, .bool t.lzy]] w (GroupsB t ws w) := by
  intro t
  induction t using Tr.ind with
  | h t ih =>
  intro ws w kA kn kc sA sn sc hT hbs hp
  have hb : Below w.heap.size w (w.alloc (.cells #[.int .i64 t.op, .slice kA kn kc, .int .i32 t.rune, .slice sA sn sc, .int .i64 t.at_, .int .i64 t.cap, .string t.name, .int .i64 t.mn, .int .i64 t.mx, .bool t.lzy] 27)) := (Below.refl _ _).alloc (Nat.le_refl _) _
  have hB := TBox.newV w t kA kn kc sA sn sc
  have hkp : ∀ k ∈ t.kids, k.parts ≤ 20000 := fun k hk => by have := Tr.partsL_le hk; rw [Tr.parts_eq] at hp; omega
  have hkn : kn ≤ 20000 := by have := Tr.len_le_partsL t.kids; rw [Tr.parts_eq] at hp; obtain ⟨ka, hK⟩ := hT.kidsV; have := hK.len; omega
  have hpt : Tr.partsL t.kids ≤ 19999 := by rw [Tr.parts_eq] at hp; omega
  obtain ⟨ka, hK⟩ := hT.kidsV
  have HS := Lib.hid (hbs.trans (hb.mono hbs.size))
  have h10 := hB.ten
  have k0 := h10.c0
  have k1 := h10.c1
  have k2 := h10.c2
  have k3 := h10.c3
  have k4 := h10.c4
  have k5 := h10.c5
  have k6 := h10.c6
  have k7 := h10.c7
  have k8 := h10.c8
  have k9 := h10.c9
  dsimp only at k1 k3
  have HTT := Lib.hid hT
  have HB := Lib.hid hb
  have HBX := Lib.hid hB
  have HK := Lib.hid hK
  have HP := Lib.hid hkp
  have HPT := Lib.hid hpt
  have IH := Lib.hid ih
  clear hb hB hkp ih hT hp h10 hK hpt hbs
  go_enter Try.func60, Try.ntmps60
  go_upto_region 1 with fail
  generalize w.alloc (.cells #[.int .i64 t.op, .slice kA kn kc, .int .i32 t.rune, .slice sA sn sc, .int .i64 t.at_, .int .i64 t.cap, .string t.name, .int .i64 t.mn, .int .i64 t.mx, .bool t.lzy] 27) = w0 at HB HBX HS k0 k1 k2 k3 k4 k5 k6 k7 k8 k9 ⊢
  by_cases h6 : t.op = 6
  · have d0 : (t.op == 6) = true := beq_iff_eq.2 h6
    obtain ⟨G0, hG0⟩ : ∃ G0, grp [t] = G0 := ⟨_, rfl⟩
    have HGT := Lib.hid hG0
    have hg1 : G0 = [t] := by rw [← hG0, grp_one, if_pos h6]
    have HG1 := Lib.hid hg1
    have HG0 : Hid (G0.length ≤ 1) := Lib.hid (by rw [hg1]; simp)
    clear h6 hG0 hg1
    go_upto_region 5 with (at_builtin; refine wpList_app _ rfl _ _ 23 rfl w0.heap.size 27 elTr (.slice none 0 0) 0 [] rfl (World.ownsRow_nil _ _ _ _) 0 (w0.heap.size + 1) (some ⟨w0.heap.size, 0, none⟩) 1 1 (t.cells ⟨kA, kn, kc, sA, sn, sc⟩) rfl (fun h => by cases h) rfl (Rd.new w0 _ _ _ (Nat.zero_le _) (by omega)) (fun u hu => tcells_one [(t, ⟨kA, kn, kc, sA, sn, sc⟩)] u (by simpa [tcells] using hu)) (by unfold maxLen; omega) (by omega) (by simp) ?_; intro v1 W1 hv1 hg1 _ _)
    obtain ⟨B1, d1, rfl, _, _⟩ := own_form hv1
    have hW1 : Below w0.heap.size w0 W1 := ((Below.refl w0.heap.size w0).alloc (Nat.le_refl _) _).grown hg1 (by simp) (fun k hk => by cases hk)
    have HW1 := Lib.hid hW1
    have HO1 : Hid (W1.ownsRow w0.heap.size 27 10 (.slice B1 1 d1) 1 (tcells [(t, ⟨kA, kn, kc, sA, sn, sc⟩)])) := Lib.hid (by simpa [tcells] using hv1)
    clear k0 k1 k2 k3 k4 k5 k6 k7 k8 k9
    clear hv1 hg1 hW1
    go_loopg [4, 3] (kn + 1) (fun q i v W => ∃ (j : Nat) (ys : List (Tr × TA)) (B : Option Addr) (d : Nat), q = kn + 1 - j ∧ j ≤ kn ∧ i = .int .i64 (j : Int) ∧ v = .slice B ys.length d ∧ Hid (ys.map (·.1) = G0 ++ grp (Tr.allL (t.kids.take j))) ∧ Hid (∀ y ∈ ys, TIn ws y.1 y.2) ∧ Hid (W.ownsRow w0.heap.size 27 10 (.slice B ys.length d) ys.length (tcells ys)) ∧ Hid (Below w0.heap.size w0 W))
    case atStart => exact ⟨0, [(t, ⟨kA, kn, kc, sA, sn, sc⟩)], B1, d1, rfl, Nat.zero_le _, rfl, rfl, Lib.hid (by rw [HG1.out]; simp [Tr.allL, grp]), Lib.hid (fun y hy => by rw [List.mem_singleton] at hy; subst hy; exact HTT.out), HO1, HW1⟩
    case round =>
      obtain ⟨j, ys, B, d, hgk, hj, rfl, rfl, HY, HIN, HO, HW⟩ := hrel
      have HG := Lib.hid hgk
      have HJ := Lib.hid hj
      have c1 := (HBX.out.below HW.out).ten.c1
      dsimp only at c1
      have hyl : ys.length ≤ 20000 := by
        have h1 := congrArg List.length HY.out
        rw [List.length_map, List.length_append] at h1
        have h2 := grp_parts (t.kids.take j)
        have h3 := Tr.partsL_take_le t.kids j
        have h4 := HPT.out
        have h5 := HG0.out
        omega
      clear hgk hj
      by_cases hlt : j < kn
      · obtain ⟨b, o, k, x, rfl, hb, hk, hx, hc⟩ := HK.out.at hlt
        have hsw := HS.out.trans (HW.out.mono HS.out.size)
        have h10 := hc wr (.of_below hsw (Nat.le_refl _))
        have k0 := h10.c0
        have k1 := h10.c1
        have k2 := h10.c2
        have k3 := h10.c3
        have k4 := h10.c4
        have k5 := h10.c5
        have k6 := h10.c6
        have k7 := h10.c7
        have k8 := h10.c8
        have k9 := h10.c9
        have hi : (j : Int) < (kn : Int) := by omega
        have hcall := IH.out k (List.mem_of_getElem? hk) hx hsw (HP.out k (List.mem_of_getElem? hk))
        have HKK := Lib.hid hk
        have HLT := Lib.hid hlt
        clear h10 hc hx hk hb hlt hsw
        go_wp2_with fail
        refine hcall.mono ?_
        rintro e w5 ⟨zs, C, dz, hz1, hz2, rfl, hz3, hb5⟩
        have HN : Hid (Below w0.heap.size w0 w5) := Lib.hid (HW.out.trans (hb5.mono HW.out.size))
        have HZ1 := Lib.hid hz1
        have hzl : zs.length ≤ 20000 := by
          have h1 := congrArg List.length hz1
          rw [List.length_map] at h1
          have h2 := grp_len k.all
          have h3 := k.all_lenG
          have h4 := HP.out k (List.mem_of_getElem? HKK.out)
          omega
        have hown := ownKept HO.out hb5
        have hnil : C = none → zs.length = 0 := fun h => by
          obtain ⟨_, h0 | ⟨g, cap, cur, h0, _⟩⟩ := hz3
          · exact h0.2
          · rw [h] at h0; cases h0
        have hsz := HN.out.size
        have HZ2 := Lib.hid hz2
        have HNL := Lib.hid hnil
        have HRD := Lib.hid (Rd.of_own (lo := 0) (U := w5.heap.size) hz3 (Nat.zero_le _) (Nat.le_refl _))
        clear hcall hb5 hz1 hz2 hz3 hnil c1 k0 k1 k2 k3 k4 k5 k6 k7 k8 k9
        go_wp2_with (at_builtin; refine wpList_app _ rfl _ _ 23 rfl w0.heap.size 27 elTr _ _ _ rfl hown 0 w5.heap.size C zs.length dz (tcells zs) rfl HNL.out (tcells_len zs) HRD.out (tcells_one zs) (by unfold maxLen; omega) (by omega) hsz ?_; intro v2 W2 hv2 hg2 _ _)
        obtain ⟨B2, d2, rfl, _, _⟩ := own_form hv2
        have hW2 := HN.out.grown hg2 hsz (fun k hk => (hown.lt k hk).1)
        have HW2 := Lib.hid hW2
        rw [← tcells_append, ← List.length_append] at hv2
        have HO2 := Lib.hid hv2
        clear hv2 hg2 hW2 hown
        go_roundg (kn + 1 - (j + 1))
        case measure => have := HG.out; have := HLT.out; omega
        case rel =>
          refine ⟨j + 1, ys ++ zs, B2, d2, rfl, by have := HLT.out; omega, by go_num, by rw [List.length_append], Lib.hid ?_, Lib.hid ?_, HO2, HW2⟩
          · rw [List.map_append, HY.out, HZ1.out, Tr.allL_take HKK.out, grp_app, List.append_assoc]
          · exact fun y hy => (List.mem_append.1 hy).elim (HIN.out y) (HZ2.out y)
      · have hi : ¬ (j : Int) < (kn : Int) := by omega
        have hall : t.kids.take j = t.kids := by rw [show j = t.kids.length by have := HK.out.len; have := HJ.out; omega, List.take_length]
        rw [hall] at HY
        have hfin : ys.map (·.1) = grp t.all := by
          rw [HY.out, Tr.all_eq, show t :: Tr.allL t.kids = [t] ++ Tr.allL t.kids from rfl, grp_app, HGT.out]
        have HF := Lib.hid hfin
        clear hlt hall hfin hyl
        go_wp2_with fail
        go_ret
        exact ⟨ys, B, d, HF.out, HIN.out, rfl, World.ownsRow.mono HO.out HB.out.size, HB.out.trans (HW.out.mono HB.out.size)⟩
  · have d0 : (t.op == 6) = false := beq_eq_false_iff_ne.2 h6
    obtain ⟨G0, hG0⟩ : ∃ G0, grp [t] = G0 := ⟨_, rfl⟩
    have HGT := Lib.hid hG0
    have hg1 : G0 = [] := by rw [← hG0, grp_one, if_neg h6]
    have HG1 := Lib.hid hg1
    have HG0 : Hid (G0.length ≤ 1) := Lib.hid (by rw [hg1]; simp)
    clear h6 hG0 hg1
    go_upto_region 5 with fail
    clear k0 k1 k2 k3 k4 k5 k6 k7 k8 k9
    go_loopg [4, 3] (kn + 1) (fun q i v W => ∃ (j : Nat) (ys : List (Tr × TA)) (B : Option Addr) (d : Nat), q = kn + 1 - j ∧ j ≤ kn ∧ i = .int .i64 (j : Int) ∧ v = .slice B ys.length d ∧ Hid (ys.map (·.1) = G0 ++ grp (Tr.allL (t.kids.take j))) ∧ Hid (∀ y ∈ ys, TIn ws y.1 y.2) ∧ Hid (W.ownsRow w0.heap.size 27 10 (.slice B ys.length d) ys.length (tcells ys)) ∧ Hid (Below w0.heap.size w0 W))
    case atStart => exact ⟨0, [], none, 0, rfl, Nat.zero_le _, rfl, rfl, Lib.hid (by rw [HG1.out]; simp [Tr.allL, grp]), Lib.hid (fun _ h => by cases h), Lib.hid (World.ownsRow_nil _ _ _ _), Lib.hid (Below.refl _ _)⟩
    case round =>
      obtain ⟨j, ys, B, d, hgk, hj, rfl, rfl, HY, HIN, HO, HW⟩ := hrel
      have HG := Lib.hid hgk
      have HJ := Lib.hid hj
      have c1 := (HBX.out.below HW.out).ten.c1
      dsimp only at c1
      have hyl : ys.length ≤ 20000 := by
        have h1 := congrArg List.length HY.out
        rw [List.length_map, List.length_append] at h1
        have h2 := grp_parts (t.kids.take j)
        have h3 := Tr.partsL_take_le t.kids j
        have h4 := HPT.out
        have h5 := HG0.out
        omega
      clear hgk hj
      by_cases hlt : j < kn
      · obtain ⟨b, o, k, x, rfl, hb, hk, hx, hc⟩ := HK.out.at hlt
        have hsw := HS.out.trans (HW.out.mono HS.out.size)
        have h10 := hc wr (.of_below hsw (Nat.le_refl _))
        have k0 := h10.c0
        have k1 := h10.c1
        have k2 := h10.c2
        have k3 := h10.c3
        have k4 := h10.c4
        have k5 := h10.c5
        have k6 := h10.c6
        have k7 := h10.c7
        have k8 := h10.c8
        have k9 := h10.c9
        have hi : (j : Int) < (kn : Int) := by omega
        have hcall := IH.out k (List.mem_of_getElem? hk) hx hsw (HP.out k (List.mem_of_getElem? hk))
        have HKK := Lib.hid hk
        have HLT := Lib.hid hlt
        clear h10 hc hx hk hb hlt hsw
        go_wp2_with fail
        refine hcall.mono ?_
        rintro e w5 ⟨zs, C, dz, hz1, hz2, rfl, hz3, hb5⟩
        have HN : Hid (Below w0.heap.size w0 w5) := Lib.hid (HW.out.trans (hb5.mono HW.out.size))
        have HZ1 := Lib.hid hz1
        have hzl : zs.length ≤ 20000 := by
          have h1 := congrArg List.length hz1
          rw [List.length_map] at h1
          have h2 := grp_len k.all
          have h3 := k.all_lenG
          have h4 := HP.out k (List.mem_of_getElem? HKK.out)
          omega
        have hown := ownKept HO.out hb5
        have hnil : C = none → zs.length = 0 := fun h => by
          obtain ⟨_, h0 | ⟨g, cap, cur, h0, _⟩⟩ := hz3
          · exact h0.2
          · rw [h] at h0; cases h0
        have hsz := HN.out.size
        have HZ2 := Lib.hid hz2
        have HNL := Lib.hid hnil
        have HRD := Lib.hid (Rd.of_own (lo := 0) (U := w5.heap.size) hz3 (Nat.zero_le _) (Nat.le_refl _))
        clear hcall hb5 hz1 hz2 hz3 hnil c1 k0 k1 k2 k3 k4 k5 k6 k7 k8 k9
        go_wp2_with (at_builtin; refine wpList_app _ rfl _ _ 23 rfl w0.heap.size 27 elTr _ _ _ rfl hown 0 w5.heap.size C zs.length dz (tcells zs) rfl HNL.out (tcells_len zs) HRD.out (tcells_one zs) (by unfold maxLen; omega) (by omega) hsz ?_; intro v2 W2 hv2 hg2 _ _)
        obtain ⟨B2, d2, rfl, _, _⟩ := own_form hv2
        have hW2 := HN.out.grown hg2 hsz (fun k hk => (hown.lt k hk).1)
        have HW2 := Lib.hid hW2
        rw [← tcells_append, ← List.length_append] at hv2
        have HO2 := Lib.hid hv2
        clear hv2 hg2 hW2 hown
        go_roundg (kn + 1 - (j + 1))
        case measure => have := HG.out; have := HLT.out; omega
        case rel =>
          refine ⟨j + 1, ys ++ zs, B2, d2, rfl, by have := HLT.out; omega, by go_num, by rw [List.length_append], Lib.hid ?_, Lib.hid ?_, HO2, HW2⟩
          · rw [List.map_append, HY.out, HZ1.out, Tr.allL_take HKK.out, grp_app, List.append_assoc]
          · exact fun y hy => (List.mem_append.1 hy).elim (HIN.out y) (HZ2.out y)
      · have hi : ¬ (j : Int) < (kn : Int) := by omega
        have hall : t.kids.take j = t.kids := by rw [show j = t.kids.length by have := HK.out.len; have := HJ.out; omega, List.take_length]
        rw [hall] at HY
        have hfin : ys.map (·.1) = grp t.all := by
          rw [HY.out, Tr.all_eq, show t :: Tr.allL t.kids = [t] ++ Tr.allL t.kids from rfl, grp_app, HGT.out]
        have HF := Lib.hid hfin
        clear hlt hall hfin hyl
        go_wp2_with fail
        go_ret
        exact ⟨ys, B, d, HF.out, HIN.out, rfl, World.ownsRow.mono HO.out HB.out.size, HB.out.trans (HW.out.mono HB.out.size)⟩
end Go.Proofs.Ytbhcgjahlfpjoaa
