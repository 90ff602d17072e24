/- Layer 5's law: its head. -/
import Derived.Test.YtbhcgjahlfpjoaaQ14
import Derived.Test.YtbhcgjahlfpjoaaOpS3
namespace Go.Proofs.Ytbhcgjahlfpjoaa
open Go.RowKit

def K05 : Tr := ⟨3, [], 97, [], 0, 0, ⟨#[]⟩, 0, 0, false⟩
def T05 : Tr := ⟨6, [K05], 0, [], 0, 1, ⟨#[120]⟩, 0, 0, false⟩
theorem T05_all : T05.all = [T05, K05] := by simp [T05, K05, Tr.all, Tr.allL]
theorem T05_grp : grp T05.all = [T05] := by rw [T05_all]; rfl
theorem T05_parts : T05.parts = 2 := by simp [T05, K05, Tr.parts, Tr.partsL]
theorem T05_depth : T05.depth = 2 := by simp [T05, K05, Tr.depth, Tr.depths]
theorem T05_weight : T05.weight = 3 := by
  simp [T05, K05, Tr.weight, Tr.weights, wOf]
  decide
theorem T05_name : NameOk ⟨#[120]⟩ := ⟨by decide, by decide, fun i hi => by
  obtain rfl : i = 0 := by simp [ByteArray.size] at hi; exact hi
  exact .inl (by unfold LetB; decide)⟩
theorem K05_ok : OkP K05 := by constructor <;> simp [K05]
theorem T05_ok : OkP T05 := by
  constructor <;> simp [T05]
  exact T05_name
theorem T05_right : RightP T05 := by
  refine ⟨by rw [T05_depth]; omega, by rw [T05_weight]; omega, ?_, ?_⟩
  · intro q hq
    rw [T05_all] at hq
    simp only [List.mem_cons, List.not_mem_nil, or_false] at hq
    rcases hq with rfl | rfl
    · exact T05_ok
    · exact K05_ok
  · rw [T05_grp]
    exact CapsOK.snoc.2 ⟨CapsOK.nil, rfl, fun _ h => by cases h⟩
theorem T05_in (w : World) {g : Nat} (hg : g = w.heap.size) : TIn (w.alloc (.cells #[.int .i64 3, .slice none 0 0, .int .i32 97, .slice none 0 0, .int .i64 0, .int .i64 0, .string ⟨#[]⟩, .int .i64 0, .int .i64 0, .bool false] 27)) T05 ⟨some ⟨g, 0, none⟩, 1, 1, none, 0, 0⟩ := by
  subst hg
  refine .mk (fun _ => ⟨none, 0, 0, none, 0, 0⟩) (RgIn.empty _) rfl (Nat.le_refl _) (show (1 : Nat) ≤ maxLen by unfold maxLen; decide) (fun h => by cases h) (show T05.name.size ≤ maxLen by unfold maxLen; decide) (show (0 : Nat) ≤ 17592186043904 by decide) (fun _ => ⟨w.heap.size, 0, rfl, by simp, fun i k hk j v hv => ?_⟩) (fun i k hk => ?_)
  · rcases i with _ | i
    · simp [T05] at hk
      subst hk
      have h1 := (Blk.new w 27 #[.int .i64 3, .slice none 0 0, .int .i32 97, .slice none 0 0, .int .i64 0, .int .i64 0, .string ⟨#[]⟩, .int .i64 0, .int .i64 0, .bool false]).cell j
      rw [Nat.zero_mul, Nat.zero_add, Nat.zero_add, h1, ← hv]
      simp [Tr.cells, K05]
    · simp [T05] at hk
  · rcases i with _ | i
    · simp [T05] at hk
      subst hk
      exact .mk (fun _ => ⟨none, 0, 0, none, 0, 0⟩) (RgIn.empty _) rfl (Nat.le_refl _) (Nat.zero_le _) (fun _ => rfl) (by unfold maxLen; decide) (by decide) (fun h => by cases h) (fun i k hk => by simp [K05] at hk)
    · simp [T05] at hk

set_option maxRecDepth 20000 in
set_option maxHeartbeats 2000000 in
theorem head05_any (w : World) : Calls Try.prog 17 #[] w fun e w' => e = .returned (.bool true) ∧ Below w.heap.size w w' := by
  have b1 : Below w.heap.size w (w.alloc (.cells #[.int .i64 3, .slice none 0 0, .int .i32 97, .slice none 0 0, .int .i64 0, .int .i64 0, .string ⟨#[]⟩, .int .i64 0, .int .i64 0, .bool false] 27)) := (Below.refl _ _).alloc (Nat.le_refl _) _
  have t1 := T05_in w rfl
  have s1 : (w.alloc (.cells #[.int .i64 3, .slice none 0 0, .int .i32 97, .slice none 0 0, .int .i64 0, .int .i64 0, .string ⟨#[]⟩, .int .i64 0, .int .i64 0, .bool false] 27)).heap.size = w.heap.size + 1 := by simp
  obtain ⟨w1, hw1⟩ : ∃ w1, w.alloc (.cells #[.int .i64 3, .slice none 0 0, .int .i32 97, .slice none 0 0, .int .i64 0, .int .i64 0, .string ⟨#[]⟩, .int .i64 0, .int .i64 0, .bool false] 27) = w1 := ⟨_, rfl⟩
  obtain ⟨g, hg⟩ : ∃ g, w.heap.size = g := ⟨_, rfl⟩
  rw [hw1] at b1 t1 s1
  rw [hg] at t1 s1
  have b2 := b1.alloc b1.size (.cells #[.int .i64 6, .slice (some ⟨g, 0, none⟩) 1 1, .int .i32 0, .slice none 0 0, .int .i64 0, .int .i64 1, .string ⟨#[120]⟩, .int .i64 0, .int .i64 0, .bool false] 27)
  have t2 := t1.on ((Below.refl w1.heap.size w1).alloc (Nat.le_refl _) (.cells #[.int .i64 6, .slice (some ⟨g, 0, none⟩) 1 1, .int .i32 0, .slice none 0 0, .int .i64 0, .int .i64 1, .string ⟨#[120]⟩, .int .i64 0, .int .i64 0, .bool false] 27))
  have k2 : TBox (w1.alloc (.cells #[.int .i64 6, .slice (some ⟨g, 0, none⟩) 1 1, .int .i32 0, .slice none 0 0, .int .i64 0, .int .i64 1, .string ⟨#[120]⟩, .int .i64 0, .int .i64 0, .bool false] 27)) w1.heap.size T05 ⟨some ⟨g, 0, none⟩, 1, 1, none, 0, 0⟩ := TBox.newV w1 T05 (some ⟨g, 0, none⟩) 1 1 none 0 0
  rw [s1] at k2
  have HB := Lib.hid b2
  have HT := Lib.hid t2
  have HBX := Lib.hid k2
  have HS := Lib.hid s1
  have HW1 := Lib.hid hw1
  have HG := Lib.hid hg
  clear b1 t1 s1 b2 t2 k2 hw1 hg
  go_enter Try.func17, Try.ntmps17
  go_wp2_with fail
  rw [HW1.out, HG.out]
  have hc : Calls Try.prog 21 #[.agg #[.int .i64 6, .slice (some ⟨g, 0, none⟩) 1 1, .int .i32 0, .slice none 0 0, .int .i64 0, .int .i64 1, .string ⟨#[120]⟩, .int .i64 0, .int .i64 0, .bool false]] (w1.alloc (.cells #[.int .i64 6, .slice (some ⟨g, 0, none⟩) 1 1, .int .i32 0, .slice none 0 0, .int .i64 0, .int .i64 1, .string ⟨#[120]⟩, .int .i64 0, .int .i64 0, .bool false] 27)) (fun e w' => ∃ B d, e = .returned (.slice B 2 d) ∧ w'.ownsRow (w1.alloc (.cells #[.int .i64 6, .slice (some ⟨g, 0, none⟩) 1 1, .int .i32 0, .slice none 0 0, .int .i64 0, .int .i64 1, .string ⟨#[120]⟩, .int .i64 0, .int .i64 0, .bool false] 27)).heap.size 9 1 (.slice B 2 d) 2 [.string ⟨#[]⟩, .string ⟨#[120]⟩] ∧ Below (w1.alloc (.cells #[.int .i64 6, .slice (some ⟨g, 0, none⟩) 1 1, .int .i32 0, .slice none 0 0, .int .i64 0, .int .i64 1, .string ⟨#[120]⟩, .int .i64 0, .int .i64 0, .bool false] 27)).heap.size (w1.alloc (.cells #[.int .i64 6, .slice (some ⟨g, 0, none⟩) 1 1, .int .i32 0, .slice none 0 0, .int .i64 0, .int .i64 1, .string ⟨#[120]⟩, .int .i64 0, .int .i64 0, .bool false] 27)) w') :=
    (pcaps_any (t := T05) HT.out (by rw [T05_parts]; omega)).mono (by
      rintro e w' (⟨hno, _⟩ | ⟨_, B, d, he, ho, hb⟩)
      · exact absurd T05_right hno
      · rw [show capL (grp T05.all) = [⟨#[]⟩, ⟨#[120]⟩] by rw [T05_grp]; rfl] at he ho
        exact ⟨B, d, he, ho, hb⟩)
  generalize w1.alloc (.cells #[.int .i64 6, .slice (some ⟨g, 0, none⟩) 1 1, .int .i32 0, .slice none 0 0, .int .i64 0, .int .i64 1, .string ⟨#[120]⟩, .int .i64 0, .int .i64 0, .bool false] 27) = W2 at HB HT HBX hc ⊢
  refine hc.mono ?_
  rintro e w3 ⟨B, d, rfl, hown, hb3⟩
  clear hc HW1
  obtain ⟨q, cap, hform, hqb, hqlt⟩ := hown.form (by decide)
  obtain rfl : B = some ⟨q, 0, none⟩ := by injection hform
  have hce : w3.cell? ⟨q, 1, none⟩ = some (.string ⟨#[120]⟩) := by
    have := hown.cells (g := q) rfl 1 (.string ⟨#[120]⟩) rfl
    simpa [Addr.add] using this
  have HB3 := Lib.hid (HB.out.trans (hb3.mono HB.out.size))
  have HT3 := Lib.hid (HT.out.on hb3)
  have HBX3 := Lib.hid (HBX.out.below hb3)
  have HCE := Lib.hid hce
  have HQ := Lib.hid hqlt
  clear hb3 hown hform hce hqb hqlt HB HT HBX
  have h10 := HBX3.out.ten
  have k0 := h10.c0
  have k1 := h10.c1
  have k2 := h10.c2
  have k3 := h10.c3
  have k4 := h10.c4
  have k5 := h10.c5
  have k6 := h10.c6
  have k7 := h10.c7
  have k8 := h10.c8
  have k9 := h10.c9
  dsimp only [T05] at k0 k1 k2 k3 k4 k5 k6 k7 k8 k9
  clear h10
  have hr : Calls Try.prog 19 #[.agg #[.int .i64 6, .slice (some ⟨g, 0, none⟩) 1 1, .int .i32 0, .slice none 0 0, .int .i64 0, .int .i64 1, .string ⟨#[120]⟩, .int .i64 0, .int .i64 0, .bool false]] w3 (fun e w' => e = .returned (.bool true) ∧ Below w3.heap.size w3 w') :=
    (tright_any (t := T05) HT3.out (by rw [T05_parts]; omega)).mono (by
      rintro e w' ⟨b, he, hb, hbw⟩
      rw [hb.2 T05_right] at he
      exact ⟨he, hbw⟩)
  go_wp2_with fail
  refine hr.mono ?_
  rintro e w4 ⟨rfl, hb4⟩
  have HB4 := Lib.hid (HB3.out.trans (hb4.mono HB3.out.size))
  have HT4 := Lib.hid (HT3.out.on hb4)
  have HBX4 := Lib.hid (HBX3.out.below hb4)
  have HCE4 := Lib.hid ((hb4.cell (p := ⟨q, 1, none⟩) HQ.out).trans HCE.out)
  have HQ4 := Lib.hid (Nat.lt_of_lt_of_le HQ.out hb4.size)
  clear hr hb4 HB3 HT3 HBX3 HCE HQ
  clear k0 k1 k2 k3 k4 k5 k6 k7 k8 k9
  have h10 := HBX4.out.ten
  have k0 := h10.c0
  have k1 := h10.c1
  have k2 := h10.c2
  have k3 := h10.c3
  have k4 := h10.c4
  have k5 := h10.c5
  have k6 := h10.c6
  have k7 := h10.c7
  have k8 := h10.c8
  have k9 := h10.c9
  dsimp only [T05] at k0 k1 k2 k3 k4 k5 k6 k7 k8 k9
  clear h10
  have hd : Calls Try.prog 53 #[.agg #[.int .i64 6, .slice (some ⟨g, 0, none⟩) 1 1, .int .i32 0, .slice none 0 0, .int .i64 0, .int .i64 1, .string ⟨#[120]⟩, .int .i64 0, .int .i64 0, .bool false]] w4 (fun e w' => e = .returned (.int .i64 2) ∧ Below w4.heap.size w4 w') :=
    (pdepth_any T05 HT4.out (by rw [T05_parts]; omega)).mono (by
      rintro e w' ⟨he, hbw⟩
      rw [T05_depth] at he
      exact ⟨he, hbw⟩)
  go_wp2_with fail
  refine hd.mono ?_
  rintro e w5 ⟨rfl, hb5⟩
  have HB5 := Lib.hid (HB4.out.trans (hb5.mono HB4.out.size))
  have HT5 := Lib.hid (HT4.out.on hb5)
  have HBX5 := Lib.hid (HBX4.out.below hb5)
  have HCE5 := Lib.hid ((hb5.cell (p := ⟨q, 1, none⟩) HQ4.out).trans HCE4.out)
  have HQ5 := Lib.hid (Nat.lt_of_lt_of_le HQ4.out hb5.size)
  clear hd hb5 HB4 HT4 HBX4 HCE4 HQ4
  clear k0 k1 k2 k3 k4 k5 k6 k7 k8 k9
  have h10 := HBX5.out.ten
  have k0 := h10.c0
  have k1 := h10.c1
  have k2 := h10.c2
  have k3 := h10.c3
  have k4 := h10.c4
  have k5 := h10.c5
  have k6 := h10.c6
  have k7 := h10.c7
  have k8 := h10.c8
  have k9 := h10.c9
  dsimp only [T05] at k0 k1 k2 k3 k4 k5 k6 k7 k8 k9
  clear h10
  have hw : Calls Try.prog 54 #[.agg #[.int .i64 6, .slice (some ⟨g, 0, none⟩) 1 1, .int .i32 0, .slice none 0 0, .int .i64 0, .int .i64 1, .string ⟨#[120]⟩, .int .i64 0, .int .i64 0, .bool false]] w5 (fun e w' => e = .returned (.int .i64 3) ∧ Below w5.heap.size w5 w') :=
    (pweight_any T05 HT5.out (by rw [T05_parts]; omega)).mono (by
      rintro e w' ⟨he, hbw⟩
      rw [T05_weight] at he
      exact ⟨he, hbw⟩)
  go_wp2_with fail
  refine hw.mono ?_
  rintro e w6 ⟨rfl, hb6⟩
  have HB6 := Lib.hid (HB5.out.trans (hb6.mono HB5.out.size))
  have hce := (hb6.cell (p := ⟨q, 1, none⟩) HQ5.out).trans HCE5.out
  clear hw hb6 HB5 HT5 HBX5 HCE5 HQ5
  clear k0 k1 k2 k3 k4 k5 k6 k7 k8 k9
  go_wp2_with fail
  go_ret
  exact ⟨rfl, HB6.out⟩
end Go.Proofs.Ytbhcgjahlfpjoaa
