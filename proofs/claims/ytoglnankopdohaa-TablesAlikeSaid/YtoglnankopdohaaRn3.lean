/- tables.Orbit: the walk. -/
import Derived.Test.YtoglnankopdohaaRn2
namespace Go.Proofs.Ytoglnankopdohaa
open Go.RowKit

def stCell (s : Int × Int × Int) : List Value := [.int .i32 s.1, .int .i32 s.2.1, .int .i32 s.2.2]
def stCells : List Value := ST.flatMap stCell
theorem st_at {k : Nat} {s : Int × Int × Int} (h : ST[k]? = some s) : stCells[k * 3]? = some (.int .i32 s.1) ∧ stCells[k * 3 + 1]? = some (.int .i32 s.2.1) ∧ stCells[k * 3 + 2]? = some (.int .i32 s.2.2) := by
  have hk : k < 13 := by
    rcases Nat.lt_or_ge k 13 with h' | h'
    · exact h'
    · rw [List.getElem?_eq_none (by simpa [ST] using h')] at h; cases h
  rcases k with _ | _ | _ | _ | _ | _ | _ | _ | _ | _ | _ | _ | _ | k
  all_goals first
    | omega
    | (simp only [ST, List.getElem?_cons_succ, List.getElem?_cons_zero, Nat.zero_add, Nat.reduceAdd] at h
       injection h with h
       subst h
       exact ⟨rfl, rfl, rfl⟩)
theorem st_bound {s : Int × Int × Int} (h : s ∈ ST) : 0 ≤ s.1 ∧ s.1 ≤ 10000 ∧ 0 ≤ s.2.1 ∧ s.2.1 ≤ 10000 ∧ -10000 ≤ s.2.2 ∧ s.2.2 ≤ 10000 := by
  have hd : ∀ s ∈ ST, 0 ≤ s.1 ∧ s.1 ≤ 10000 ∧ 0 ≤ s.2.1 ∧ s.2.1 ≤ 10000 ∧ -10000 ≤ s.2.2 ∧ s.2.2 ≤ 10000 := by decide
  exact hd s h
set_option maxRecDepth 20000 in
set_option maxHeartbeats 1000000 in
theorem stretches_any (w : World) : Calls Try.prog 61 #[] w fun e w' => e = .returned (.slice (some ⟨w.heap.size, 0, none⟩) 13 13) ∧ w' = w.alloc (.cells stCells.toArray 56) := by
  simp only [stCells, stCell, ST, List.flatMap_cons, List.flatMap_nil, List.append_nil, List.cons_append, List.nil_append]
  go_enter Try.func61, Try.ntmps61
  go_wp2_with fail
  go_ret
  exact ⟨rfl, rfl⟩
theorem OutAt.get {base : Nat} {W : World} {g : Nat} {l : List Int} {B : Option Addr} {d : Nat} (h : OutAt base W g l B d) {j : Nat} {x : Int} (hj : l[j]? = some x) :
    ∃ b o, B = some ⟨b, o, none⟩ ∧ W.cell? ⟨b, o + j, none⟩ = some (.int .i32 x) ∧ W.cell? ⟨g, 0, none⟩ = some (.slice B l.length d) := by
  have hjl : j < l.length := by
    rcases Nat.lt_or_ge j l.length with h' | h'
    · exact h'
    · rw [List.getElem?_eq_none h'] at hj; cases hj
  obtain ⟨b, o, y, hB, _, hy, hc⟩ := (RnIn.of_own h.own rfl).at hjl
  rw [hj] at hy
  injection hy with hy
  subst hy
  have c1 := h.blk.cell 0
  simp only [List.getElem?_toArray, List.getElem?_cons_zero] at c1
  exact ⟨b, o, hB, hc W (Same.refl _ _ _), c1⟩
theorem OutAt.alloc {base : Nat} {W : World} {g : Nat} {l : List Int} {B : Option Addr} {d : Nat} (h : OutAt base W g l B d) (ob : Obj) : OutAt base (W.alloc ob) g l B d := ⟨h.blk.alloc ob, h.own.alloc ob⟩
theorem OutAt.drewN {base : Nat} {W : World} {g : Nat} {l : List Int} {B : Option Addr} {d : Nat} (h : OutAt base W g l B d) (n : Nat) : OutAt base (W.drewN n) g l B d := ⟨h.blk.drewN n, h.own⟩
theorem blk3 {W : World} {b : Nat} {t : TypeId} {x y z : Value} (h : Blk W b t #[x, y, z]) : W.cell? ⟨b, 0, none⟩ = some x ∧ W.cell? ⟨b, 1, none⟩ = some y ∧ W.cell? ⟨b, 2, none⟩ = some z := ⟨h.cell 0, h.cell 1, h.cell 2⟩
theorem orbL_in {c : Int} (h0 : 0 ≤ c) (h1 : c ≤ 1114111) : orbL c = orbR c := if_pos ⟨h0, h1⟩
theorem own_one (w : World) (v : Value) (e : TypeId) : (w.alloc (.cells #[v] e)).ownsRow w.heap.size e 1 (.slice (some ⟨w.heap.size, 0, none⟩) 1 1) 1 [v] :=
  ⟨rfl, .inr ⟨w.heap.size, 1, #[v], rfl, Nat.le_refl _, Blk.new w e #[v], Nat.le_refl _, by unfold maxLen; omega, rfl, rfl⟩⟩
/-- What the round holds in memory. -/
structure OrW (w W : World) (l : List Int) (B : Option Addr) (d : Nat) : Prop where
  out : OutAt w.heap.size W (w.heap.size + 1) l B d
  below : Below w.heap.size w W
structure OrV (w V : World) (st : Nat) (l : List Int) (B : Option Addr) (d : Nat) : Prop where
  orw : OrW w V l B d
  stb : Blk V st 56 stCells.toArray

theorem OrbK.leave_lt {c x : Int} {l : List Int} {i k : Nat} (h : OrbK c l i k x) : i < l.length := by
  rcases Nat.lt_or_ge i l.length with h' | h'
  · exact h'
  · have := h.at_; rw [List.getElem?_eq_none h'] at this; cases this

set_option maxRecDepth 20000 in
set_option maxHeartbeats 8000000 in
theorem orbit_any (c : Int) (w : World) : Calls Try.prog 28 #[.int .i32 c] w fun e w' => ∃ B m d, e = .returned (.slice B m d) ∧ RnIn w' B m d (orbL c) ∧ Below w.heap.size w w' := by
  by_cases h0 : 0 ≤ c
  · by_cases h1 : c ≤ 1114111
    · rw [orbL_in h0 h1]
      have k0 : ¬ c < 0 := by omega
      have k1 : ¬ 1114111 < c := by omega
      have eg : ∀ args w, (callFunc 59 args).run Try.prog w = .ok (.enter 59 args) w := enters_of Try.func59 (by kernel_rfl) rfl
      have hown0 : ((w.alloc (.cells #[.int .i32 c] 21)).alloc (.cells #[.slice (some ⟨w.heap.size, 0, none⟩) 1 1] 31)).ownsRow w.heap.size 21 1 (.slice (some ⟨w.heap.size, 0, none⟩) 1 1) 1 (i32s [c]) :=
        (own_one w (.int .i32 c) 21).alloc _
      have hout0 : OutAt w.heap.size ((w.alloc (.cells #[.int .i32 c] 21)).alloc (.cells #[.slice (some ⟨w.heap.size, 0, none⟩) 1 1] 31)) (w.heap.size + 1) [c] (some ⟨w.heap.size, 0, none⟩) 1 :=
        ⟨by have := Blk.new (w.alloc (.cells #[.int .i32 c] 21)) 31 #[.slice (some ⟨w.heap.size, 0, none⟩) 1 1]; simpa using this, hown0⟩
      have HO := Lib.hid (OrW.mk (w := w) hout0 (((Below.refl _ _).alloc (Nat.le_refl _) _).alloc (by simp) _))
      clear hown0 hout0
      go_enter Try.func28, Try.ntmps28
      go_wp2_with fail
      go_loopg [5] 4 (fun q i W => ∃ (j : Nat) (l : List Int) (B : Option Addr) (d : Nat), q = 4 - j ∧ i = .int .i64 (j : Int) ∧ Hid (OrbI c l j) ∧ Hid (OrW w W l B d))
      case atStart => exact ⟨0, [c], _, _, rfl, rfl, Lib.hid (OrbI.start c), HO⟩
      case round =>
        clear HO
        obtain ⟨j, l, B, d, hgk, rfl, HI, HW⟩ := hrel
        obtain ⟨wo, hwo⟩ : ∃ wo, wo = wr := ⟨_, rfl⟩
        subst hwo
        have HG := Lib.hid hgk
        have hl3 := HI.out.len
        have hjl := HI.out.le
        clear hgk
        have cg := HW.out.out.blk.cell 0
        simp only [List.getElem?_toArray, List.getElem?_cons_zero] at cg
        by_cases hlt : j < l.length
        · have hi : (j : Int) < (l.length : Int) := by omega
          have hx : l[j]? = some l[j] := List.getElem?_eq_getElem hlt
          generalize l[j] = x at hx
          have HK := Lib.hid (HI.out.enter hx)
          have hxb := orb_bound h0 h1 (HI.out.only x (List.mem_of_getElem? hx))
          have hst := stretches_any wo
          have HV : Hid (OrV w (wo.alloc (.cells stCells.toArray 56)) wo.heap.size l B d) := Lib.hid ⟨⟨HW.out.out.alloc _, HW.out.below.alloc HW.out.below.size _⟩, Blk.new _ _ _⟩
          clear hx hlt hjl HI HW
          go_wp2_with fail
          refine hst.mono ?_
          rintro e w2 ⟨rfl, hw2⟩
          rw [← hw2] at HV
          clear hst hw2 cg
          go_wp2_with fail
          go_loopg [27] 14 (fun q i V => ∃ (k : Nat) (l : List Int) (B : Option Addr) (d : Nat), q = 14 - k ∧ k ≤ 13 ∧ i = .int .i64 (k : Int) ∧ Hid (OrbK c l j k x) ∧ Hid (OrV w V wo.heap.size l B d))
          case atStart => exact ⟨0, l, B, d, rfl, by omega, rfl, HK, HV⟩
          case round =>
            clear HK HV
            obtain ⟨k, l, B, d, hgk2, hk, rfl, HK, HV⟩ := hrel
            have HG2 := Lib.hid hgk2
            clear hgk2
            by_cases hlt2 : k < 13
            · have hi2 : (k : Int) < 13 := by omega
              have hs : ST[k]? = some ST[k] := List.getElem?_eq_getElem (by simpa [ST] using hlt2)
              generalize ST[k] = s at hs
              have hsm : s ∈ ST := List.mem_of_getElem? hs
              have hb := st_bound hsm
              obtain ⟨u1, u2, u3⟩ := st_at hs
              have v1 := HV.out.stb.cell (k * 3)
              have v2 := HV.out.stb.cell (k * 3 + 1)
              have v3 := HV.out.stb.cell (k * 3 + 2)
              rw [List.getElem?_toArray, u1] at v1
              rw [List.getElem?_toArray, u2] at v2
              rw [List.getElem?_toArray, u3] at v3
              obtain ⟨lo, hi3, up⟩ := s
              simp only at hb v1 v2 v3
              clear u1 u2 u3
              have hw1 : IntKind.i32.wrap (x + up) = x + up := IntWalk.i32_in _ (by omega)
              have hw2 : IntKind.i32.wrap (x - up) = x - up := IntWalk.i32_in _ (by omega)
              have HS := Lib.hid hs
              have HM := Lib.hid hsm
              have HLT2 := Lib.hid hlt2
              have HHI := Lib.hid hk
              clear hs hsm hlt2 hk
              -- the stretch's box
              obtain ⟨bo, oo, hB, co, cg⟩ := HV.out.orw.out.get HK.out.at_
              subst hB
              have hgl := HV.out.orw.out.blk.lt
              have hlj : (j : Int) < (l.length : Int) := by
                have := HK.out.leave_lt; omega
              have hl3 := HK.out.inv.len
              have hV1 : OrV w (wr.alloc (.cells #[.int .i32 lo, .int .i32 hi3, .int .i32 up] 56)) wo.heap.size l (some ⟨bo, oo, none⟩) d := ⟨⟨HV.out.orw.out.alloc _, HV.out.orw.below.alloc HV.out.orw.below.size _⟩, HV.out.stb.alloc _⟩
              have hbx : Blk (wr.alloc (.cells #[.int .i32 lo, .int .i32 hi3, .int .i32 up] 56)) wr.heap.size 56 #[.int .i32 lo, .int .i32 hi3, .int .i32 up] := Blk.new _ _ _
              have cg1 := hV1.orw.out.blk.cell 0
              simp only [List.getElem?_toArray, List.getElem?_cons_zero] at cg1
              have co1 := hV1.orw.out.get HK.out.at_
              obtain ⟨_, _, hB, co1, _⟩ := co1
              injection hB with hB
              injection hB with hB1 hB2
              subst hB1; subst hB2
              obtain ⟨x1, x2, x3⟩ := blk3 hbx
              have HV1 := Lib.hid hV1
              have HBX := Lib.hid hbx
              clear hV1 hbx HV
              have HNX : ∀ {l1 : List Int}, l1 = st1 (lo, hi3, up) x l → OrbK c (st2 (lo, hi3, up) x l1) j (k + 1) x := fun h => by rw [h]; exact HK.out.next HS.out
              by_cases a1 : lo ≤ x
              · by_cases a2 : x ≤ hi3
                · have ha := add_any HV1.out.orw.out (by omega) (by omega) HV1.out.orw.below.size (x + up)
                  have hst1 : st1 (lo, hi3, up) x l = addF l (x + up) := if_pos ⟨a1, a2⟩
                  have HK1 := Lib.hid (HK.out.st1 HM.out)
                  rw [hst1] at HK1
                  go_wp2_with (go_at_fn 59; refine ha.mono ?_; rintro e V2 ⟨rfl, B2, d2, hO2, hb2, hK2⟩)
                  have HV2 : Hid (OrV w V2 wo.heap.size (addF l (x + up)) B2 d2) := Lib.hid ⟨⟨hO2, HV1.out.orw.below.trans hb2⟩, hK2 _ _ _ HV1.out.stb (by decide) (HV1.out.stb.ne HV1.out.orw.out.blk (by decide))⟩
                  have HBX2 : Hid (Blk V2 wr.heap.size 56 #[.int .i32 lo, .int .i32 hi3, .int .i32 up]) := Lib.hid (hK2 _ _ _ HBX.out (by decide) (by omega))
                  have HS1 := Lib.hid hst1
                  clear ha hO2 hb2 hK2 hst1 HK HV1 HBX x1 x2 x3 co1 cg1 v1 v2 v3 a1 a2
                  generalize addF l (x + up) = l1 at HK1 HV2 HS1
                  obtain ⟨b2, o2, hB2, co2, cg2⟩ := HV2.out.orw.out.get HK1.out.at_
                  subst hB2
                  have hlj2 : (j : Int) < (l1.length : Int) := by
                    have := HK1.out.leave_lt; omega
                  have hl32 := HK1.out.inv.len
                  obtain ⟨x1, x2, x3⟩ := blk3 HBX2.out
                  go_quiet (fail)
                  have HV3 : Hid (OrV w (V2.drewN nq) wo.heap.size l1 (some ⟨b2, o2, none⟩) d2) := Lib.hid ⟨⟨HV2.out.orw.out.drewN _, HV2.out.orw.below.drewN⟩, HV2.out.stb.drewN _⟩
                  have HBX3 : Hid (Blk (V2.drewN nq) wr.heap.size 56 #[.int .i32 lo, .int .i32 hi3, .int .i32 up]) := Lib.hid (HBX2.out.drewN _)
                  clear HV2 HBX2 x1 x2 x3 co2 cg2
                  generalize V2.drewN nq = V3 at HV3 HBX3 ⊢
                  obtain ⟨x1, x2, x3⟩ := blk3 HBX3.out
                  by_cases a3 : lo ≤ x - up
                  · by_cases a4 : x - up ≤ hi3
                    · have ha := add_any HV3.out.orw.out (by omega) (by omega) HV3.out.orw.below.size (x - up)
                      have hst2 : st2 (lo, hi3, up) x l1 = addF l1 (x - up) := if_pos ⟨a3, a4⟩
                      go_wp2_with (go_at_fn 59; refine ha.mono ?_; rintro e V4 ⟨rfl, B4, d4, hO4, hb4, hK4⟩)
                      have HVN : Hid (OrV w V4 wo.heap.size (st2 (lo, hi3, up) x l1) B4 d4) := Lib.hid (by rw [hst2]; exact ⟨⟨hO4, HV3.out.orw.below.trans hb4⟩, hK4 _ _ _ HV3.out.stb (by decide) (HV3.out.stb.ne HV3.out.orw.out.blk (by decide))⟩)
                      have HKN : Hid (OrbK c (st2 (lo, hi3, up) x l1) j (k + 1) x) := Lib.hid (HNX HS1.out.symm)
                      go_roundg (14 - (k + 1))
                      case measure => have := HG2.out; have := HLT2.out; omega
                      case rel => exact ⟨k + 1, _, _, _, rfl, by have := HLT2.out; omega, by go_num, HKN, HVN⟩
                    · have hst2 : st2 (lo, hi3, up) x l1 = l1 := if_neg fun h => a4 h.2
                      go_wp2_with fail
                      have HVN : Hid (OrV w V3 wo.heap.size (st2 (lo, hi3, up) x l1) _ _) := Lib.hid (by rw [hst2]; exact HV3.out)
                      have HKN : Hid (OrbK c (st2 (lo, hi3, up) x l1) j (k + 1) x) := Lib.hid (HNX HS1.out.symm)
                      go_roundg (14 - (k + 1))
                      case measure => have := HG2.out; have := HLT2.out; omega
                      case rel => exact ⟨k + 1, _, _, _, rfl, by have := HLT2.out; omega, by go_num, HKN, HVN⟩
                  · have hst2 : st2 (lo, hi3, up) x l1 = l1 := if_neg fun h => a3 h.1
                    go_wp2_with fail
                    have HVN : Hid (OrV w V3 wo.heap.size (st2 (lo, hi3, up) x l1) _ _) := Lib.hid (by rw [hst2]; exact HV3.out)
                    have HKN : Hid (OrbK c (st2 (lo, hi3, up) x l1) j (k + 1) x) := Lib.hid (HNX HS1.out.symm)
                    go_roundg (14 - (k + 1))
                    case measure => have := HG2.out; have := HLT2.out; omega
                    case rel => exact ⟨k + 1, _, _, _, rfl, by have := HLT2.out; omega, by go_num, HKN, HVN⟩
                · have hst1 : st1 (lo, hi3, up) x l = l := if_neg fun h => a2 h.2
                  have HK1 := Lib.hid (HK.out.st1 HM.out)
                  rw [hst1] at HK1
                  go_wp2_with fail
                  have HV2 := HV1
                  have HBX2 := HBX
                  have HS1 := Lib.hid hst1
                  clear hst1 HK HV1 HBX x1 x2 x3 co1 cg1 v1 v2 v3 a1 a2
                  generalize wr.alloc (.cells #[.int .i32 lo, .int .i32 hi3, .int .i32 up] 56) = V2 at HV2 HBX2 ⊢
                  obtain ⟨b2, o2, hB2, co2, cg2⟩ := HV2.out.orw.out.get HK1.out.at_
                  injection hB2 with hB2
                  injection hB2 with e1 e2
                  subst e1
                  subst e2
                  have hlj2 : (j : Int) < (l.length : Int) := by
                    have := HK1.out.leave_lt; omega
                  have hl32 := HK1.out.inv.len
                  obtain ⟨x1, x2, x3⟩ := blk3 HBX2.out
                  go_quiet (fail)
                  have HV3 : Hid (OrV w (V2.drewN nq) wo.heap.size l (some ⟨bo, oo, none⟩) d) := Lib.hid ⟨⟨HV2.out.orw.out.drewN _, HV2.out.orw.below.drewN⟩, HV2.out.stb.drewN _⟩
                  have HBX3 : Hid (Blk (V2.drewN nq) wr.heap.size 56 #[.int .i32 lo, .int .i32 hi3, .int .i32 up]) := Lib.hid (HBX2.out.drewN _)
                  clear HV2 HBX2 x1 x2 x3 co2 cg2
                  generalize V2.drewN nq = V3 at HV3 HBX3 ⊢
                  obtain ⟨x1, x2, x3⟩ := blk3 HBX3.out
                  by_cases a3 : lo ≤ x - up
                  · by_cases a4 : x - up ≤ hi3
                    · have ha := add_any HV3.out.orw.out (by omega) (by omega) HV3.out.orw.below.size (x - up)
                      have hst2 : st2 (lo, hi3, up) x l = addF l (x - up) := if_pos ⟨a3, a4⟩
                      go_wp2_with (go_at_fn 59; refine ha.mono ?_; rintro e V4 ⟨rfl, B4, d4, hO4, hb4, hK4⟩)
                      have HVN : Hid (OrV w V4 wo.heap.size (st2 (lo, hi3, up) x l) B4 d4) := Lib.hid (by rw [hst2]; exact ⟨⟨hO4, HV3.out.orw.below.trans hb4⟩, hK4 _ _ _ HV3.out.stb (by decide) (HV3.out.stb.ne HV3.out.orw.out.blk (by decide))⟩)
                      have HKN : Hid (OrbK c (st2 (lo, hi3, up) x l) j (k + 1) x) := Lib.hid (HNX HS1.out.symm)
                      go_roundg (14 - (k + 1))
                      case measure => have := HG2.out; have := HLT2.out; omega
                      case rel => exact ⟨k + 1, _, _, _, rfl, by have := HLT2.out; omega, by go_num, HKN, HVN⟩
                    · have hst2 : st2 (lo, hi3, up) x l = l := if_neg fun h => a4 h.2
                      go_wp2_with fail
                      have HVN : Hid (OrV w V3 wo.heap.size (st2 (lo, hi3, up) x l) _ _) := Lib.hid (by rw [hst2]; exact HV3.out)
                      have HKN : Hid (OrbK c (st2 (lo, hi3, up) x l) j (k + 1) x) := Lib.hid (HNX HS1.out.symm)
                      go_roundg (14 - (k + 1))
                      case measure => have := HG2.out; have := HLT2.out; omega
                      case rel => exact ⟨k + 1, _, _, _, rfl, by have := HLT2.out; omega, by go_num, HKN, HVN⟩
                  · have hst2 : st2 (lo, hi3, up) x l = l := if_neg fun h => a3 h.1
                    go_wp2_with fail
                    have HVN : Hid (OrV w V3 wo.heap.size (st2 (lo, hi3, up) x l) _ _) := Lib.hid (by rw [hst2]; exact HV3.out)
                    have HKN : Hid (OrbK c (st2 (lo, hi3, up) x l) j (k + 1) x) := Lib.hid (HNX HS1.out.symm)
                    go_roundg (14 - (k + 1))
                    case measure => have := HG2.out; have := HLT2.out; omega
                    case rel => exact ⟨k + 1, _, _, _, rfl, by have := HLT2.out; omega, by go_num, HKN, HVN⟩
              · have hst1 : st1 (lo, hi3, up) x l = l := if_neg fun h => a1 h.1
                have HK1 := Lib.hid (HK.out.st1 HM.out)
                rw [hst1] at HK1
                go_wp2_with fail
                have HV2 := HV1
                have HBX2 := HBX
                have HS1 := Lib.hid hst1
                clear hst1 HK HV1 HBX x1 x2 x3 co1 cg1 v1 v2 v3 a1
                generalize wr.alloc (.cells #[.int .i32 lo, .int .i32 hi3, .int .i32 up] 56) = V2 at HV2 HBX2 ⊢
                obtain ⟨b2, o2, hB2, co2, cg2⟩ := HV2.out.orw.out.get HK1.out.at_
                injection hB2 with hB2
                injection hB2 with e1 e2
                subst e1
                subst e2
                have hlj2 : (j : Int) < (l.length : Int) := by
                  have := HK1.out.leave_lt; omega
                have hl32 := HK1.out.inv.len
                obtain ⟨x1, x2, x3⟩ := blk3 HBX2.out
                go_quiet (fail)
                have HV3 : Hid (OrV w (V2.drewN nq) wo.heap.size l (some ⟨bo, oo, none⟩) d) := Lib.hid ⟨⟨HV2.out.orw.out.drewN _, HV2.out.orw.below.drewN⟩, HV2.out.stb.drewN _⟩
                have HBX3 : Hid (Blk (V2.drewN nq) wr.heap.size 56 #[.int .i32 lo, .int .i32 hi3, .int .i32 up]) := Lib.hid (HBX2.out.drewN _)
                clear HV2 HBX2 x1 x2 x3 co2 cg2
                generalize V2.drewN nq = V3 at HV3 HBX3 ⊢
                obtain ⟨x1, x2, x3⟩ := blk3 HBX3.out
                by_cases a3 : lo ≤ x - up
                · by_cases a4 : x - up ≤ hi3
                  · have ha := add_any HV3.out.orw.out (by omega) (by omega) HV3.out.orw.below.size (x - up)
                    have hst2 : st2 (lo, hi3, up) x l = addF l (x - up) := if_pos ⟨a3, a4⟩
                    go_wp2_with (go_at_fn 59; refine ha.mono ?_; rintro e V4 ⟨rfl, B4, d4, hO4, hb4, hK4⟩)
                    have HVN : Hid (OrV w V4 wo.heap.size (st2 (lo, hi3, up) x l) B4 d4) := Lib.hid (by rw [hst2]; exact ⟨⟨hO4, HV3.out.orw.below.trans hb4⟩, hK4 _ _ _ HV3.out.stb (by decide) (HV3.out.stb.ne HV3.out.orw.out.blk (by decide))⟩)
                    have HKN : Hid (OrbK c (st2 (lo, hi3, up) x l) j (k + 1) x) := Lib.hid (HNX HS1.out.symm)
                    go_roundg (14 - (k + 1))
                    case measure => have := HG2.out; have := HLT2.out; omega
                    case rel => exact ⟨k + 1, _, _, _, rfl, by have := HLT2.out; omega, by go_num, HKN, HVN⟩
                  · have hst2 : st2 (lo, hi3, up) x l = l := if_neg fun h => a4 h.2
                    go_wp2_with fail
                    have HVN : Hid (OrV w V3 wo.heap.size (st2 (lo, hi3, up) x l) _ _) := Lib.hid (by rw [hst2]; exact HV3.out)
                    have HKN : Hid (OrbK c (st2 (lo, hi3, up) x l) j (k + 1) x) := Lib.hid (HNX HS1.out.symm)
                    go_roundg (14 - (k + 1))
                    case measure => have := HG2.out; have := HLT2.out; omega
                    case rel => exact ⟨k + 1, _, _, _, rfl, by have := HLT2.out; omega, by go_num, HKN, HVN⟩
                · have hst2 : st2 (lo, hi3, up) x l = l := if_neg fun h => a3 h.1
                  go_wp2_with fail
                  have HVN : Hid (OrV w V3 wo.heap.size (st2 (lo, hi3, up) x l) _ _) := Lib.hid (by rw [hst2]; exact HV3.out)
                  have HKN : Hid (OrbK c (st2 (lo, hi3, up) x l) j (k + 1) x) := Lib.hid (HNX HS1.out.symm)
                  go_roundg (14 - (k + 1))
                  case measure => have := HG2.out; have := HLT2.out; omega
                  case rel => exact ⟨k + 1, _, _, _, rfl, by have := HLT2.out; omega, by go_num, HKN, HVN⟩
            · have hk13 : k = 13 := by omega
              subst hk13
              have hi2 : ¬ ((13 : Nat) : Int) < 13 := by omega
              have HI2 := Lib.hid HK.out.leave
              have hlj := HK.out.leave_lt
              have hl3 := HK.out.inv.len
              have HW2 := Lib.hid HV.out.orw
              clear HK HV hlt2
              go_wp2_with fail
              go_roundg (4 - (j + 1))
              case measure => have := HG.out; omega
              case rel => exact ⟨j + 1, _, _, _, rfl, by go_num, HI2, HW2⟩
        · have hjl2 : j = l.length := by omega
          subst hjl2
          have hi : ¬ (l.length : Int) < (l.length : Int) := by omega
          have hpos : 0 < l.length := List.length_pos_of_mem HI.out.self
          have hsort := sortRn_any HW.out.out.own hpos (by omega)
          have hgne := own_ne_blk HW.out.out.own HW.out.out.blk (by decide)
          have hab := own_above HW.out.out.own
          clear hlt hjl
          go_wp2_with fail
          refine hsort.mono ?_
          rintro e w2 ⟨rfl, r, hp, hs, hown, hgr⟩
          have hr : r = orbR c := HI.out.sorted hp hs
          have cg2 : w2.cell? ⟨w.heap.size + 1, 0, none⟩ = some (.slice B l.length d) := ((HW.out.out.blk.grown hgr hgne).cell 0).trans rfl
          have hR : RnIn w2 B l.length d (orbR c) := by rw [← hr]; exact RnIn.of_own hown hp.length_eq.symm
          have HR := Lib.hid hR
          have HBE := Lib.hid (HW.out.below.grown hgr HW.out.below.size hab)
          clear hsort hgne hab hp hs hown hgr hr hR cg
          go_wp2_with fail
          go_ret
          exact ⟨_, _, _, rfl, HR.out, HBE.out⟩
    · have he : orbL c = [] := if_neg fun h => h1 h.2
      rw [he]
      have k0 : ¬ c < 0 := by omega
      have k1 : 1114111 < c := by omega
      clear h0 h1 he
      go_enter Try.func28, Try.ntmps28
      go_wp2_with fail
      go_ret
      exact ⟨_, _, _, rfl, RnIn.empty _, Below.refl _ _⟩
  · have he : orbL c = [] := if_neg fun h => h0 h.1
    rw [he]
    have k0 : c < 0 := by omega
    clear h0 he
    go_enter Try.func28, Try.ntmps28
    go_wp2_with fail
    go_ret
    exact ⟨_, _, _, rfl, RnIn.empty _, Below.refl _ _⟩

end Go.Proofs.Ytoglnankopdohaa
