/- Trees: how deep, how many parts: the walks. -/
import Derived.Test.YtbhcgjahlfpjoaaQ1
import Derived.Test.YtbhcgjahlfpjoaaRgRound
import Derived.Deep.Cut
namespace Go.Proofs.Ytbhcgjahlfpjoaa
open Go.RowKit

/-- A number is told, and what lay lies. -/
def NumB (n : Int) (w : World) (e : Ending) (w' : World) : Prop := e = .returned (.int .i64 n) ∧ Below w.heap.size w w'
theorem TIn.kidsV {w : World} {t : Tr} {kA : Option Addr} {kn kc : Nat} {sA : Option Addr} {sn sc : Nat} (h : TIn w t ⟨kA, kn, kc, sA, sn, sc⟩) : ∃ ka, TsIn w kA kn kc t.kids ka := h.kids
theorem TBox.newV (W : World) (t : Tr) (kA : Option Addr) (kn kc : Nat) (sA : Option Addr) (sn sc : Nat) : TBox (W.alloc (.cells #[.int .i64 t.op, .slice kA kn kc, .int .i32 t.rune, .slice sA sn sc, .int .i64 t.at_, .int .i64 t.cap, .string t.name, .int .i64 t.mn, .int .i64 t.mx, .bool t.lzy] 27)) W.heap.size t ⟨kA, kn, kc, sA, sn, sc⟩ := TBox.new W t ⟨kA, kn, kc, sA, sn, sc⟩
theorem TBox.newA (W : World) (t : Tr) (a : TA) : TBox (W.alloc (.cells #[.int .i64 t.op, .slice a.kA a.kn a.kc, .int .i32 t.rune, .slice a.sA a.sn a.sc, .int .i64 t.at_, .int .i64 t.cap, .string t.name, .int .i64 t.mn, .int .i64 t.mx, .bool t.lzy] 27)) W.heap.size t a := TBox.new W t a

set_option maxRecDepth 20000 in
set_option maxHeartbeats 1000000 in
theorem rdepth_any : ∀ (t : Tr) {w : World} {kA : Option Addr} {kn kc : Nat} {sA : Option Addr} {sn sc : Nat}, TIn w t ⟨kA, kn, kc, sA, sn, sc⟩ → t.parts ≤ 20000 → Calls Try.prog 58 #[.agg #[.int .i64 t.op, .slice kA kn kc, .int .i32 t.rune, .slice sA sn sc, .int .i64 t.at_, .int .i64 t.cap, .string t.name, .int .i64 t.mn, .int .i64 t.mx, .bool t.lzy]] w (NumB (t.depth : Int) w) := by
  intro t
  induction t using Tr.ind with
  | h t ih =>
  intro w kA kn kc sA sn sc hT hp
  have hb : Below w.heap.size w (w.alloc (.cells #[.int .i64 t.op, .slice kA kn kc, .int .i32 t.rune, .slice sA sn sc, .int .i64 t.at_, .int .i64 t.cap, .string t.name, .int .i64 t.mn, .int .i64 t.mx, .bool t.lzy] 27)) := (Below.refl _ _).alloc (Nat.le_refl _) _
  have hB := TBox.newV w t kA kn kc sA sn sc
  obtain ⟨ka, hK⟩ := (hT.on hb).kidsV
  have hkn : kn ≤ 20000 := by have := Tr.len_le_partsL t.kids; rw [Tr.parts_eq] at hp; have := hK.len; omega
  have hkp : ∀ k ∈ t.kids, k.parts ≤ 20000 := fun k hk => by have := Tr.partsL_le hk; rw [Tr.parts_eq] at hp; omega
  have HB := Lib.hid hb
  have HBX := Lib.hid hB
  have HK := Lib.hid hK
  have HP := Lib.hid hkp
  have IH := Lib.hid ih
  have hd : Tr.depths t.kids ≤ 20000 := by have := t.depth_le_parts; rw [Tr.depth_eq] at this; omega
  have HD := Lib.hid hd
  rw [Tr.depth_eq]
  clear hb hB hK hkp ih hT hp hd
  go_enter Try.func58, Try.ntmps58
  skip
  go_wp2_with fail
  generalize w.alloc (.cells #[.int .i64 t.op, .slice kA kn kc, .int .i32 t.rune, .slice sA sn sc, .int .i64 t.at_, .int .i64 t.cap, .string t.name, .int .i64 t.mn, .int .i64 t.mx, .bool t.lzy] 27) = w0 at HB HBX HK ⊢
  go_loopg [4, 3] (kn + 1) (fun q i n W => ∃ j : Nat, q = kn + 1 - j ∧ j ≤ kn ∧ i = .int .i64 (j : Int) ∧ n = .int .i64 (Tr.depths (t.kids.take j) : Int) ∧ Hid (Below w0.heap.size w0 W))
  case atStart => exact ⟨0, rfl, Nat.zero_le _, rfl, by simp [Tr.depths], Lib.hid (Below.refl _ _)⟩
  case round =>
    obtain ⟨j, hgk, hj, rfl, rfl, HW⟩ := hrel
    have HG := Lib.hid hgk
    have HJ := Lib.hid hj
    have c1 := (HBX.out.below HW.out).ten.c1
    dsimp only at c1
    clear hgk hj
    by_cases hlt : j < kn
    · obtain ⟨b, o, k, x, rfl, hb, hk, hx, hc⟩ := HK.out.at hlt
      have h10 := hc wr (.of_below HW.out (Nat.le_refl _))
      have k0 := h10.c0
      have k1 := h10.c1
      have k2 := h10.c2
      have k3 := h10.c3
      have k4 := h10.c4
      have k5 := h10.c5
      have k6 := h10.c6
      have k7 := h10.c7
      have k8 := h10.c8
      have k9 := h10.c9
      have hi : (j : Int) < (kn : Int) := by omega
      have hcall := fun (V : World) (hV : Below wr.heap.size wr V) => IH.out k (List.mem_of_getElem? hk) (hx.on (HW.out.trans (hV.mono HW.out.size))) (HP.out k (List.mem_of_getElem? hk))
      have HC : Hid (∀ V : World, Below wr.heap.size wr V → Calls Try.prog 58 #[.agg #[.int .i64 k.op, .slice x.kA x.kn x.kc, .int .i32 k.rune, .slice x.sA x.sn x.sc, .int .i64 k.at_, .int .i64 k.cap, .string k.name, .int .i64 k.mn, .int .i64 k.mx, .bool k.lzy]] V (NumB (k.depth : Int) V)) := Lib.hid hcall
      have HKK := Lib.hid hk
      have HLT := Lib.hid hlt
      clear hcall h10 hc hx hk hb hlt
      have hcall := HC.out wr (Below.refl _ _)
      go_wp2_with fail
      refine hcall.mono ?_
      rintro e w5 ⟨rfl, hb5⟩
      have HN : Hid (Below w0.heap.size w0 w5) := Lib.hid (HW.out.trans (hb5.mono HW.out.size))
      clear hcall hb5 k0 k1 k2 k3 k4 k5 k6 k7 k8 k9
      have hmax : Max.max (Tr.depths (t.kids.take j) : Int) (k.depth : Int) = (Tr.depths (t.kids.take (j + 1)) : Int) := by rw [Tr.depths_take HKK.out]; omega
      go_wp2_with fail
      go_roundg (kn + 1 - (j + 1))
      case measure => have := HG.out; have := HLT.out; omega
      case rel => exact ⟨j + 1, rfl, by have := HLT.out; omega, by go_num, by rw [Tr.depths_take HKK.out], HN⟩
    · have hi : ¬ (j : Int) < (kn : Int) := by omega
      have hall : t.kids.take j = t.kids := by rw [show j = t.kids.length by have := HK.out.len; have := HJ.out; omega, List.take_length]
      rw [hall]
      have hd : (Tr.depths t.kids : Int) ≤ 20000 := by have := HD.out; omega
      clear hlt hall
      go_wp2_with fail
      go_ret
      exact ⟨rfl, HB.out.trans (HW.out.mono HB.out.size)⟩
set_option maxRecDepth 20000 in
set_option maxHeartbeats 1000000 in
theorem pdepth_any : ∀ (t : Tr) {w : World} {kA : Option Addr} {kn kc : Nat} {sA : Option Addr} {sn sc : Nat}, TIn w t ⟨kA, kn, kc, sA, sn, sc⟩ → t.parts ≤ 20000 → Calls Try.prog 53 #[.agg #[.int .i64 t.op, .slice kA kn kc, .int .i32 t.rune, .slice sA sn sc, .int .i64 t.at_, .int .i64 t.cap, .string t.name, .int .i64 t.mn, .int .i64 t.mx, .bool t.lzy]] w (NumB (t.depth : Int) w) := by
  intro t
  induction t using Tr.ind with
  | h t ih =>
  intro w kA kn kc sA sn sc hT hp
  have hb : Below w.heap.size w (w.alloc (.cells #[.int .i64 t.op, .slice kA kn kc, .int .i32 t.rune, .slice sA sn sc, .int .i64 t.at_, .int .i64 t.cap, .string t.name, .int .i64 t.mn, .int .i64 t.mx, .bool t.lzy] 27)) := (Below.refl _ _).alloc (Nat.le_refl _) _
  have hB := TBox.newV w t kA kn kc sA sn sc
  obtain ⟨ka, hK⟩ := (hT.on hb).kidsV
  have hkn : kn ≤ 20000 := by have := Tr.len_le_partsL t.kids; rw [Tr.parts_eq] at hp; have := hK.len; omega
  have hkp : ∀ k ∈ t.kids, k.parts ≤ 20000 := fun k hk => by have := Tr.partsL_le hk; rw [Tr.parts_eq] at hp; omega
  have HB := Lib.hid hb
  have HBX := Lib.hid hB
  have HK := Lib.hid hK
  have HP := Lib.hid hkp
  have IH := Lib.hid ih
  have hd : Tr.depths t.kids ≤ 20000 := by have := t.depth_le_parts; rw [Tr.depth_eq] at this; omega
  have HD := Lib.hid hd
  rw [Tr.depth_eq]
  clear hb hB hK hkp ih hT hp hd
  go_enter Try.func53, Try.ntmps53
  have c1 := HBX.out.ten.c1
  dsimp only at c1
  go_wp2_with fail
  clear c1
  generalize w.alloc (.cells #[.int .i64 t.op, .slice kA kn kc, .int .i32 t.rune, .slice sA sn sc, .int .i64 t.at_, .int .i64 t.cap, .string t.name, .int .i64 t.mn, .int .i64 t.mx, .bool t.lzy] 27) = w0 at HB HBX HK ⊢
  go_loopg [9, 3] (kn + 1) (fun q i n W => ∃ j : Nat, q = kn + 1 - j ∧ j ≤ kn ∧ i = .int .i64 (j : Int) ∧ n = .int .i64 (Tr.depths (t.kids.take j) : Int) ∧ Hid (Below w0.heap.size w0 W))
  case atStart => exact ⟨0, rfl, Nat.zero_le _, rfl, by simp [Tr.depths], Lib.hid (Below.refl _ _)⟩
  case round =>
    obtain ⟨j, hgk, hj, rfl, rfl, HW⟩ := hrel
    have HG := Lib.hid hgk
    have HJ := Lib.hid hj
    have c1 := (HBX.out.below HW.out).ten.c1
    dsimp only at c1
    clear hgk hj
    by_cases hlt : j < kn
    · obtain ⟨b, o, k, x, rfl, hb, hk, hx, hc⟩ := HK.out.at hlt
      have h10 := hc wr (.of_below HW.out (Nat.le_refl _))
      have k0 := h10.c0
      have k1 := h10.c1
      have k2 := h10.c2
      have k3 := h10.c3
      have k4 := h10.c4
      have k5 := h10.c5
      have k6 := h10.c6
      have k7 := h10.c7
      have k8 := h10.c8
      have k9 := h10.c9
      have hi : (j : Int) < (kn : Int) := by omega
      have hcall := fun (V : World) (hV : Below wr.heap.size wr V) => IH.out k (List.mem_of_getElem? hk) (hx.on (HW.out.trans (hV.mono HW.out.size))) (HP.out k (List.mem_of_getElem? hk))
      have HC : Hid (∀ V : World, Below wr.heap.size wr V → Calls Try.prog 53 #[.agg #[.int .i64 k.op, .slice x.kA x.kn x.kc, .int .i32 k.rune, .slice x.sA x.sn x.sc, .int .i64 k.at_, .int .i64 k.cap, .string k.name, .int .i64 k.mn, .int .i64 k.mx, .bool k.lzy]] V (NumB (k.depth : Int) V)) := Lib.hid hcall
      have HKK := Lib.hid hk
      have HLT := Lib.hid hlt
      clear hcall h10 hc hx hk hb hlt
      have hbx := TBox.newA wr k x
      go_upto_region 5 with fail
      have HBK := Lib.hid hbx
      have HWA : Hid (Below wr.heap.size wr (wr.alloc (.cells #[.int .i64 k.op, .slice x.kA x.kn x.kc, .int .i32 k.rune, .slice x.sA x.sn x.sc, .int .i64 k.at_, .int .i64 k.cap, .string k.name, .int .i64 k.mn, .int .i64 k.mx, .bool k.lzy] 27))) := Lib.hid ((Below.refl _ _).alloc (Nat.le_refl _) _)
      clear hbx k0 k1 k2 k3 k4 k5 k6 k7 k8 k9 c1
      have h10 := HBK.out.ten
      have k0 := h10.c0
      have k1 := h10.c1
      have k2 := h10.c2
      have k3 := h10.c3
      have k4 := h10.c4
      have k5 := h10.c5
      have k6 := h10.c6
      have k7 := h10.c7
      have k8 := h10.c8
      have k9 := h10.c9
      have hcall := HC.out _ HWA.out
      clear h10
      go_wp2_with fail
      refine hcall.mono ?_
      rintro e w5 ⟨rfl, hb5⟩
      have HN : Hid (Below w0.heap.size w0 w5) := Lib.hid (HW.out.trans ((HWA.out.trans (hb5.mono HWA.out.size)).mono HW.out.size))
      clear hcall hb5 k0 k1 k2 k3 k4 k5 k6 k7 k8 k9
      have hmax : Max.max (Tr.depths (t.kids.take j) : Int) (k.depth : Int) = (Tr.depths (t.kids.take (j + 1)) : Int) := by rw [Tr.depths_take HKK.out]; omega
      go_wp2_with fail
      go_roundg (kn + 1 - (j + 1))
      case measure => have := HG.out; have := HLT.out; omega
      case rel => exact ⟨j + 1, rfl, by have := HLT.out; omega, by go_num, by rw [Tr.depths_take HKK.out], HN⟩
    · have hi : ¬ (j : Int) < (kn : Int) := by omega
      have hall : t.kids.take j = t.kids := by rw [show j = t.kids.length by have := HK.out.len; have := HJ.out; omega, List.take_length]
      rw [hall]
      have hd : (Tr.depths t.kids : Int) ≤ 20000 := by have := HD.out; omega
      clear hlt hall
      go_wp2_with fail
      go_ret
      exact ⟨rfl, HB.out.trans (HW.out.mono HB.out.size)⟩
end Go.Proofs.Ytbhcgjahlfpjoaa
