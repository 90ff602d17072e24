/- Threads: a new machine. -/
import Derived.Test.YtbhcgjahlfpjoaaDoorTl1
namespace Go.Proofs.YtbhcgjahlfpjoaaDoor
open Go.RowKit

def D0 : LD := ⟨none, 0, 0, none, 0, none, 0, [], []⟩
def c0M : Array Value := #[.slice none 0 0, .slice none 0 0, .slice none 0 0, .slice none 0 0, .slice none 0 0, .slice none 0 0, .int .i64 0]
theorem foo0 {k : Nat} (h : foo3 none none none k) : False := by
  rcases h with h | h | h <;> cases h
theorem ls_new {W : World} {g o : Nat} {b0 : Nat} (hB : Blk W g 73 c0M) (ho : o = 0 ∨ o = 3) : D0.ls b0 W (D0.sl g) g o 0 c0M [] := by
  refine ⟨⟨Frm.refl _ _, hB, World.ownsRow_nil _ _ _ _, World.ownsRow_nil _ _ _ _, World.ownsRow_nil _ _ _ _, .inl rfl, fun k h => ?_, .inl rfl⟩, ?_, ?_, ?_, rfl, Nat.le_refl _, (fun _ h => by cases h), (fun _ _ h => by simp at h), (fun _ h => by cases h), (fun _ _ h => by simp at h), .inl rfl, fun k hk => ?_, fun k hk => (foo0 hk).elim⟩
  · exact (foo0 ((foo3_iff none none none 0 0 0 0 0 0 k).1 h)).elim
  · rcases ho with rfl | rfl <;> rfl
  · rcases ho with rfl | rfl <;> rfl
  · rcases ho with rfl | rfl <;> rfl
  · rcases hk with rfl | hk
    · exact hB.lt
    · exact (foo0 hk).elim
theorem mach_new {W : World} {g b0 : Nat} (hB : Blk W g 73 c0M) (hb : b0 ≤ W.heap.size) : Mach b0 W g c0M 0 0 D0 [] 3 0 D0 [] 0 :=
  ⟨ls_new hB (.inl rfl), ls_new hB (.inr rfl), rfl, .inl ⟨rfl, rfl⟩, hb⟩
theorem ma_new {W : World} {g b0 : Nat} (hB : Blk W g 73 c0M) (hb : b0 ≤ W.heap.size) : Ma b0 W g D0 D0 := ⟨c0M, 0, [], 0, [], 0, mach_new hB hb⟩
theorem ft_new {g k : Nat} (h : Ft g D0 D0 k) : k = g := by
  rcases h with hk | hk | hk
  · exact hk
  · exact (foo0 hk).elim
  · exact (foo0 hk).elim
set_option maxHeartbeats 1000000 in
theorem new17_any (w : World) : Calls Tryd.prog 8 #[] w fun e w' => e = .returned (.pointer (some ⟨w.heap.size, 0, none⟩)) ∧ Blk w' w.heap.size 73 c0M ∧ Below w.heap.size w w' ∧ (∀ k, Ft w.heap.size D0 D0 k → k = w.heap.size) ∧ w'.heap.size = w.heap.size + 1 := by
  go_enter Tryd.func8, Tryd.ntmps8
  go_wp2_with fail
  go_ret
  refine ⟨rfl, Blk.new w _ _, (Below.refl _ _).alloc (Nat.le_refl _) _, fun k hk => ?_, by simp⟩
  rcases hk with hk | hk | hk
  · exact hk
  · exact (foo0 hk).elim
  · exact (foo0 hk).elim
end Go.Proofs.YtbhcgjahlfpjoaaDoor
