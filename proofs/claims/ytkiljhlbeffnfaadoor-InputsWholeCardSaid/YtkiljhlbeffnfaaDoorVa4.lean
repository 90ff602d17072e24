/- unicode/utf8.AppendRune: where the row lies behind it. -/
import Derived.Test.YtkiljhlbeffnfaaDoorIn4
import Derived.Test.YtkiljhlbeffnfaaDoorUtf2
import Derived.Shelf.Strings.BuilderK
import Derived.Lib.RuneBytes
namespace Go.Proofs.YtkiljhlbeffnfaaDoor
open Go.RowKit

/-- What AppendRune leaves: the row with more cells behind it, in its block or in a new one. -/
def AppB (w : World) (base n : Nat) (v : Value) (xs news : List Value) (e : Ending) (w' : World) : Prop :=
  ∃ v', e = .returned v' ∧ w'.ownsRow base 5 1 v' (n + news.length) (xs ++ news) ∧ (∃ o, (w.alloc o).grownBy w' v.ownBlock) ∧ (v'.ownBlock = v.ownBlock ∨ ∃ k, v'.ownBlock = some k ∧ w.heap.size ≤ k)
section
variable {w : World} {base n : Nat} {v : Value} {xs : List Value}
set_option maxRecDepth 100000 in
set_option maxHeartbeats 4000000 in
theorem appN_two (h : w.ownsRow base 5 1 v n xs) (hn : n ≤ 1000000) (hb : base ≤ w.heap.size) (r : Int) (h0 : 128 ≤ r) (h1 : r ≤ 2047) : Calls Tryd.prog 38 #[v, .int .i32 r] w (AppB w base n v xs [.int .u8 (192 + r / 64), .int .u8 (128 + r % 64)]) := by
  go_enter Tryd.func38, Tryd.ntmps38
  go_wp2_with (at_builtin; refine wpList_app _ rfl _ _ 23 rfl base 5 elB v n xs rfl (h.alloc _) 0 (w.heap.size + 1) (some ⟨w.heap.size, 0, none⟩) 2 2 [.int .u8 (192 + r / 64), .int .u8 (128 + r % 64)] rfl (fun h => by cases h) rfl (Rd.new w _ _ _ (Nat.zero_le _) (by omega)) (by simp [Value.oneCell']) (by unfold maxLen; omega) (by omega) (by simp; omega) ?_; intro v' W1 hv1 hg1 hat1 _)
  go_wp2
  go_ret
  refine ⟨v', rfl, hv1, ⟨_, hg1⟩, ?_⟩
  rcases hat1 with h2 | h2
  · exact .inl h2
  · exact .inr ⟨_, h2, by rw [World.size_alloc]; omega⟩
set_option maxRecDepth 100000 in
set_option maxHeartbeats 4000000 in
theorem appN_threeL (h : w.ownsRow base 5 1 v n xs) (hn : n ≤ 1000000) (hb : base ≤ w.heap.size) (r : Int) (h0 : 2048 ≤ r) (h1 : r < 55296) : Calls Tryd.prog 38 #[v, .int .i32 r] w (AppB w base n v xs [.int .u8 (224 + r / 4096), .int .u8 (128 + r / 64 % 64), .int .u8 (128 + r % 64)]) := by
  go_enter Tryd.func38, Tryd.ntmps38
  go_wp2_with (at_builtin; refine wpList_app _ rfl _ _ 23 rfl base 5 elB v n xs rfl (h.alloc _) 0 (w.heap.size + 1) (some ⟨w.heap.size, 0, none⟩) 3 3 [.int .u8 (224 + r / 4096), .int .u8 (128 + r / 64 % 64), .int .u8 (128 + r % 64)] rfl (fun h => by cases h) rfl (Rd.new w _ _ _ (Nat.zero_le _) (by omega)) (by simp [Value.oneCell']) (by unfold maxLen; omega) (by omega) (by simp; omega) ?_; intro v' W1 hv1 hg1 hat1 _)
  go_wp2
  go_ret
  refine ⟨v', rfl, hv1, ⟨_, hg1⟩, ?_⟩
  rcases hat1 with h2 | h2
  · exact .inl h2
  · exact .inr ⟨_, h2, by rw [World.size_alloc]; omega⟩
set_option maxRecDepth 100000 in
set_option maxHeartbeats 4000000 in
theorem appN_threeH (h : w.ownsRow base 5 1 v n xs) (hn : n ≤ 1000000) (hb : base ≤ w.heap.size) (r : Int) (h0 : 57343 < r) (h1 : r ≤ 65535) : Calls Tryd.prog 38 #[v, .int .i32 r] w (AppB w base n v xs [.int .u8 (224 + r / 4096), .int .u8 (128 + r / 64 % 64), .int .u8 (128 + r % 64)]) := by
  go_enter Tryd.func38, Tryd.ntmps38
  go_wp2_with (at_builtin; refine wpList_app _ rfl _ _ 23 rfl base 5 elB v n xs rfl (h.alloc _) 0 (w.heap.size + 1) (some ⟨w.heap.size, 0, none⟩) 3 3 [.int .u8 (224 + r / 4096), .int .u8 (128 + r / 64 % 64), .int .u8 (128 + r % 64)] rfl (fun h => by cases h) rfl (Rd.new w _ _ _ (Nat.zero_le _) (by omega)) (by simp [Value.oneCell']) (by unfold maxLen; omega) (by omega) (by simp; omega) ?_; intro v' W1 hv1 hg1 hat1 _)
  go_wp2
  go_ret
  refine ⟨v', rfl, hv1, ⟨_, hg1⟩, ?_⟩
  rcases hat1 with h2 | h2
  · exact .inl h2
  · exact .inr ⟨_, h2, by rw [World.size_alloc]; omega⟩
set_option maxRecDepth 100000 in
set_option maxHeartbeats 4000000 in
theorem appN_four (h : w.ownsRow base 5 1 v n xs) (hn : n ≤ 1000000) (hb : base ≤ w.heap.size) (r : Int) (h0 : 65536 ≤ r) (h1 : r ≤ 1114111) : Calls Tryd.prog 38 #[v, .int .i32 r] w (AppB w base n v xs [.int .u8 (240 + r / 262144), .int .u8 (128 + r / 4096 % 64), .int .u8 (128 + r / 64 % 64), .int .u8 (128 + r % 64)]) := by
  go_enter Tryd.func38, Tryd.ntmps38
  go_wp2_with (at_builtin; refine wpList_app _ rfl _ _ 23 rfl base 5 elB v n xs rfl (h.alloc _) 0 (w.heap.size + 1) (some ⟨w.heap.size, 0, none⟩) 4 4 [.int .u8 (240 + r / 262144), .int .u8 (128 + r / 4096 % 64), .int .u8 (128 + r / 64 % 64), .int .u8 (128 + r % 64)] rfl (fun h => by cases h) rfl (Rd.new w _ _ _ (Nat.zero_le _) (by omega)) (by simp [Value.oneCell']) (by unfold maxLen; omega) (by omega) (by simp; omega) ?_; intro v' W1 hv1 hg1 hat1 _)
  go_wp2
  go_ret
  refine ⟨v', rfl, hv1, ⟨_, hg1⟩, ?_⟩
  rcases hat1 with h2 | h2
  · exact .inl h2
  · exact .inr ⟨_, h2, by rw [World.size_alloc]; omega⟩
set_option maxRecDepth 100000 in
set_option maxHeartbeats 4000000 in
theorem appA_any (h : w.ownsRow base 5 1 v n xs) (hn : n ≤ 1000000) (hb : base ≤ w.heap.size) (r : Int) (hr : Scalar r) : Calls Tryd.prog 28 #[v, .int .i32 r] w (AppB w base n v xs (Lib.runeCells r)) := by
  unfold Scalar at hr
  by_cases ha : r ≤ 127
  · rw [show Lib.runeCells r = [.int .u8 r] by simp [Lib.runeCells, Lib.encodeRuneZ_one (by omega : 0 ≤ r) ha]]
    go_enter Tryd.func28, Tryd.ntmps28
    go_wp2_with (at_builtin; refine wpList_app _ rfl _ _ 23 rfl base 5 elB v n xs rfl (h.alloc _) 0 (w.heap.size + 1) (some ⟨w.heap.size, 0, none⟩) 1 1 [.int .u8 r] rfl (fun h => by cases h) rfl (Rd.new w _ _ _ (Nat.zero_le _) (by omega)) (by simp [Value.oneCell']) (by unfold maxLen; omega) (by omega) (by simp; omega) ?_; intro v' W1 hv1 hg1 hat1 _)
    go_wp2
    go_ret
    refine ⟨v', rfl, hv1, ⟨_, hg1⟩, ?_⟩
    rcases hat1 with h2 | h2
    · exact .inl h2
    · exact .inr ⟨_, h2, by rw [World.size_alloc]; omega⟩
  · have hcall : Calls Tryd.prog 38 #[v, .int .i32 r] w (AppB w base n v xs (Lib.runeCells r)) := by
      unfold Lib.runeCells
      by_cases hb1 : r ≤ 2047
      · rw [Lib.encodeRuneZ_two (by omega) hb1]; exact appN_two h hn hb r (by omega) hb1
      · by_cases hb2 : r ≤ 65535
        · rw [Lib.encodeRuneZ_three (by omega)]
          by_cases hb3 : r < 55296
          · exact appN_threeL h hn hb r (by omega) hb3
          · exact appN_threeH h hn hb r (by omega) hb2
        · rw [Lib.encodeRuneZ_four (by omega) (by omega)]; exact appN_four h hn hb r (by omega) (by omega)
    clear h
    go_enter Tryd.func28, Tryd.ntmps28
    go_wp2_with fail
    refine hcall.mono ?_
    rintro e w' ⟨v', rfl, h1, h2, h3⟩
    have H := Lib.hid (And.intro h1 (And.intro h2 h3))
    clear h1 h2 h3 hcall
    go_wp2_with fail
    go_ret
    exact ⟨v', rfl, H.out⟩
end
end Go.Proofs.YtkiljhlbeffnfaaDoor
