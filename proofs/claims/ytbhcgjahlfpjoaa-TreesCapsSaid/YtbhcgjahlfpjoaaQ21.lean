/- TreesCaps: the law's walk. -/
import Derived.Test.YtbhcgjahlfpjoaaQ16
import Derived.Test.YtbhcgjahlfpjoaaQ20
namespace Go.Proofs.Ytbhcgjahlfpjoaa
open Go.RowKit

open Classical in
/-- What Caps tells, whatever the tree. -/
noncomputable def capsL (t : Tr) : List ByteArray := if RightP t then capL (grp t.all) else []
theorem CapsB.sl {t : Tr} {w : World} {e : Ending} {w' : World} (h : CapsB t w e w') : ∃ B d, e = .returned (.slice B (capsL t).length d) ∧ SlIn w' B (capsL t).length d (capsL t) ∧ Below w.heap.size w w' := by
  rcases h with ⟨hno, rfl, hb⟩ | ⟨hr, B, d, rfl, ho, hb⟩
  · have e : capsL t = [] := by unfold capsL; rw [if_neg hno]
    rw [e]
    exact ⟨none, 0, rfl, ⟨Rd.nil, rfl, Nat.le_refl _, Nat.zero_le _⟩, hb⟩
  · have e : capsL t = capL (grp t.all) := by unfold capsL; rw [if_pos hr]
    rw [e]
    exact ⟨B, d, rfl, .of_own ho rfl, hb⟩
theorem capsL_len {t : Tr} (hp : t.parts ≤ 20000) : (capsL t).length ≤ 20001 := by
  unfold capsL
  split
  · rw [capL_len]
    have h1 := grp_len t.all
    have h2 := t.all_lenG
    omega
  · simp
set_option maxRecDepth 20000 in
set_option maxHeartbeats 4000000 in
theorem treesCaps_walk {w : World} {t : Tr} {kA : Option Addr} {kn kc : Nat} {sA : Option Addr} {sn sc : Nat} (hT : TIn w t ⟨kA, kn, kc, sA, sn, sc⟩) : Calls Try.prog 4 #[.agg #[.int .i64 t.op, .slice kA kn kc, .int .i32 t.rune, .slice sA sn sc, .int .i64 t.at_, .int .i64 t.cap, .string t.name, .int .i64 t.mn, .int .i64 t.mx, .bool t.lzy]] w fun e w' => e = .returned (.bool true) ∧ Below w.heap.size w w' := by
  have hb : Below w.heap.size w (w.alloc (.cells #[.int .i64 t.op, .slice kA kn kc, .int .i32 t.rune, .slice sA sn sc, .int .i64 t.at_, .int .i64 t.cap, .string t.name, .int .i64 t.mn, .int .i64 t.mx, .bool t.lzy] 27)) := (Below.refl _ _).alloc (Nat.le_refl _) _
  have hB := TBox.newV w t kA kn kc sA sn sc
  have HT := Lib.hid (hT.on hb)
  have HTW := Lib.hid hT
  have HB := Lib.hid hb
  have HBX := Lib.hid hB
  clear hb hB hT
  go_enter Try.func4, Try.ntmps4
  go_wp2_with fail
  generalize w.alloc (.cells #[.int .i64 t.op, .slice kA kn kc, .int .i32 t.rune, .slice sA sn sc, .int .i64 t.at_, .int .i64 t.cap, .string t.name, .int .i64 t.mn, .int .i64 t.mx, .bool t.lzy] 27) = w0 at HB HBX HT ⊢
  refine (head05_any _).mono ?_
  rintro e _ ⟨rfl, hb1⟩
  replace HT := Lib.hid (HT.out.on hb1)
  replace HBX := Lib.hid (HBX.out.below hb1)
  replace HB := Lib.hid (HB.out.trans (hb1.mono HB.out.size))
  clear hb1
  have h10 := HBX.out.ten
  have k0 := h10.c0
  have k1 := h10.c1
  have k2 := h10.c2
  have k3 := h10.c3
  have k4 := h10.c4
  have k5 := h10.c5
  have k6 := h10.c6
  have k7 := h10.c7
  have k8 := h10.c8
  have k9 := h10.c9
  dsimp only at k1 k3
  clear h10
  go_wp2_with fail
  refine (great_any HT.out).mono ?_
  rintro e _ ⟨b, rfl, hg, hb2⟩
  have HGR := Lib.hid hg
  clear hg
  replace HT := Lib.hid (HT.out.on hb2)
  replace HBX := Lib.hid (HBX.out.below hb2)
  replace HB := Lib.hid (HB.out.trans (hb2.mono HB.out.size))
  clear hb2
  clear k0 k1 k2 k3 k4 k5 k6 k7 k8 k9
  have h10 := HBX.out.ten
  have k0 := h10.c0
  have k1 := h10.c1
  have k2 := h10.c2
  have k3 := h10.c3
  have k4 := h10.c4
  have k5 := h10.c5
  have k6 := h10.c6
  have k7 := h10.c7
  have k8 := h10.c8
  have k9 := h10.c9
  dsimp only at k1 k3
  clear h10
  cases b with
  | true =>
    go_wp2_with fail
    go_ret
    exact ⟨rfl, HB.out⟩
  | false =>
  have hp := HGR.out rfl
  clear HGR
  go_wp2_with fail
  have hcl := capsL_len hp
  have ha : Calls Try.prog 21 _ _ _ := (pcaps_any HT.out hp).mono fun _ _ h => h.sl
  refine ha.mono ?_
  rintro e _ ⟨A, da, rfl, hA, hb3⟩
  have HA := Lib.hid hA
  clear ha hA
  replace HT := Lib.hid (HT.out.on hb3)
  replace HBX := Lib.hid (HBX.out.below hb3)
  replace HB := Lib.hid (HB.out.trans (hb3.mono HB.out.size))
  clear hb3
  clear k0 k1 k2 k3 k4 k5 k6 k7 k8 k9
  have h10 := HBX.out.ten
  have k0 := h10.c0
  have k1 := h10.c1
  have k2 := h10.c2
  have k3 := h10.c3
  have k4 := h10.c4
  have k5 := h10.c5
  have k6 := h10.c6
  have k7 := h10.c7
  have k8 := h10.c8
  have k9 := h10.c9
  dsimp only at k1 k3
  clear h10
  go_wp2_with fail
  have hbb : Calls Try.prog 22 _ _ _ := (rcaps_any HT.out hp).mono fun _ _ h => h.sl
  refine hbb.mono ?_
  rintro e W ⟨B, db, rfl, hB, hb4⟩
  have HA2 := Lib.hid (HA.out.below hb4)
  have HBL := Lib.hid hB
  have HB4 := Lib.hid (HB.out.trans (hb4.mono HB.out.size))
  clear hbb hB hb4 HA HT HBX HB k0 k1 k2 k3 k4 k5 k6 k7 k8 k9
  obtain ⟨l, hl⟩ : ∃ l, capsL t = l := ⟨_, rfl⟩
  rw [hl] at HA2 HBL hcl ⊢
  clear hl
  have hself : ((l.length : Int) != (l.length : Int)) = false := by simp
  go_wp2_with fail
  go_loopg [6] (l.length + 1) (fun q i V => ∃ (j : Nat), q = l.length + 1 - j ∧ j ≤ l.length ∧ i = .int .i64 (j : Int) ∧ Hid (Below W.heap.size W V))
  case atStart => exact ⟨0, rfl, Nat.zero_le _, rfl, Lib.hid (Below.refl _ _)⟩
  case round =>
    obtain ⟨j, hgk, hj, rfl, HW⟩ := hrel
    have HG := Lib.hid hgk
    have HJ := Lib.hid hj
    clear hgk hj
    by_cases hlt : j < l.length
    · obtain ⟨b, o, x, rfl, _, hx, hc⟩ := HA2.out.at hlt
      obtain ⟨b2, o2, y, rfl, _, hy, hc2⟩ := HBL.out.at hlt
      obtain rfl : x = y := by rw [hx] at hy; injection hy
      have c1 := hc wr (.of_below HW.out (Nat.le_refl _))
      have c2 := hc2 wr (.of_below HW.out (Nat.le_refl _))
      have hi : (j : Int) < (l.length : Int) := by omega
      have HLT := Lib.hid hlt
      clear hx hy hc hc2 hlt
      go_wp2_with fail
      go_big_quiet (fail)
      go_wp2_with fail
      go_roundg (l.length + 1 - (j + 1))
      case measure => have := HG.out; have := HLT.out; omega
      case rel => exact ⟨j + 1, rfl, by have := HLT.out; omega, by go_num, Lib.hid HW.out.drewN⟩
    · have hi : ¬ (j : Int) < (l.length : Int) := by omega
      clear hlt
      go_wp2_with fail
      go_ret
      exact ⟨rfl, HB4.out.trans (HW.out.mono HB4.out.size)⟩
end Go.Proofs.Ytbhcgjahlfpjoaa
