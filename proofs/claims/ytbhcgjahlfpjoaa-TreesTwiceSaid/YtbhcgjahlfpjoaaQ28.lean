/- May a tree fit nothing: slices.ContainsFunc over trees; trees.empty, trees.Empty: the walks. -/
import Derived.Test.YtbhcgjahlfpjoaaQ27
namespace Go.Proofs.Ytbhcgjahlfpjoaa
open Go.RowKit

set_option maxRecDepth 20000 in
set_option maxHeartbeats 2000000 in
theorem indexT_any {w : World} {A : Option Addr} {n c : Nat} {l : List Tr} {ka : Nat → TA} (hA : TsIn w A n c l ka) (p : Tr → Bool) (gf : Nat) (lb : Array Value) (eg : ∀ args w, (callFunc gf args).run Try.prog w = .ok (.enter gf args) w)
    (hp : ∀ (W : World) (k : Tr) (x : TA), k ∈ l → TIn w k x → Below w.heap.size w W → Calls Try.prog gf (#[.agg #[.int .i64 k.op, .slice x.kA x.kn x.kc, .int .i32 k.rune, .slice x.sA x.sn x.sc, .int .i64 k.at_, .int .i64 k.cap, .string k.name, .int .i64 k.mn, .int .i64 k.mx, .bool k.lzy]] ++ lb) W fun e w' => e = .returned (.bool (p k)) ∧ Below W.heap.size W w') :
    Calls Try.prog 103 #[.slice A n c, .func (.func gf) #[] lb] w fun e w' => (∃ k : Int, e = .returned (.int .i64 k) ∧ decide (0 ≤ k) = l.any p) ∧ Below w.heap.size w w' := by
  have h1 := hA.max
  have h2 := hA.le
  unfold maxLen at h1
  have hnc : (n : Int) ≤ 9223372036854775807 := by omega
  have HA := Lib.hid hA
  have HPR := Lib.hid hp
  clear hA h1 h2 hp
  go_enter Try.func103, Try.ntmps103
  go_wp2_with fail
  go_loopg [5, 8] (n + 1) (fun q _ i wr => ∃ (j : Nat), q = n + 1 - j ∧ j ≤ n ∧ i = .int .i64 (j : Int) ∧ Hid (Below w.heap.size w wr ∧ ∀ k x, k < j → l[k]? = some x → p x = false))
  case atStart => exact ⟨0, rfl, by omega, rfl, Lib.hid ⟨Below.refl _ _, by intro k x hk; omega⟩⟩
  case round =>
    obtain ⟨j, hgk, hj, rfl, HR⟩ := hrel
    have HG := Lib.hid hgk
    clear hgk
    by_cases hlt : j < n
    · obtain ⟨b, o, x, xa, rfl, hb, hx, hti, hc⟩ := HA.out.at hlt
      have h10 := hc wr (.of_below HR.out.1 (Nat.le_refl _))
      have k0 := h10.c0
      have k1 := h10.c1
      have k2 := h10.c2
      have k3 := h10.c3
      have k4 := h10.c4
      have k5 := h10.c5
      have k6 := h10.c6
      have k7 := h10.c7
      have k8 := h10.c8
      have k9 := h10.c9
      have hi : (j : Int) < (n : Int) := by omega
      have hcall := HPR.out wr x xa (List.mem_of_getElem? hx) hti HR.out.1
      have HX := Lib.hid hx
      have HLT := Lib.hid hlt
      clear hc hb hx hlt HA HPR h10 hti
      cases hq : p x with
      | true =>
        rw [hq] at hcall
        have hyes : l.any p = true := List.any_eq_true.2 ⟨x, List.mem_of_getElem? HX.out, hq⟩
        go_wp2_with (go_at_fn gf; refine hcall.mono ?_; rintro e w' ⟨rfl, hb'⟩)
        go_ret
        exact ⟨⟨_, rfl, by rw [hyes]; simp⟩, HR.out.1.trans (hb'.mono HR.out.1.size)⟩
      | false =>
        rw [hq] at hcall
        go_wp2_with (go_at_fn gf; refine hcall.mono ?_; rintro e w' ⟨rfl, hb'⟩)
        go_roundg (n + 1 - (j + 1))
        case measure => have := HG.out; have := HLT.out; omega
        case rel =>
          refine ⟨j + 1, rfl, by have := HLT.out; omega, by go_num, Lib.hid ⟨HR.out.1.trans (hb'.mono HR.out.1.size), fun k y hk hy => ?_⟩⟩
          rcases Nat.lt_succ_iff_lt_or_eq.1 hk with h | h
          · exact HR.out.2 k y h hy
          · subst h; rw [HX.out] at hy; injection hy with hy; subst hy; exact hq
    · have hi : ¬ (j : Int) < (n : Int) := by omega
      have hno : l.any p = false := by
        rw [List.any_eq_false]
        intro x hx
        obtain ⟨k, hk, rfl⟩ := List.getElem_of_mem hx
        rw [HR.out.2 k _ (by have := HA.out.len; omega) (List.getElem?_eq_getElem hk)]
        simp
      clear hlt
      go_wp2_with fail
      go_ret
      exact ⟨⟨_, rfl, by first | (rw [hno]; rfl) | decide⟩, HR.out.1⟩
set_option maxRecDepth 20000 in
set_option maxHeartbeats 1000000 in
theorem containsT_any {w : World} {A : Option Addr} {n c : Nat} {l : List Tr} {ka : Nat → TA} (hA : TsIn w A n c l ka) (p : Tr → Bool) (gf : Nat) (lb : Array Value) (eg : ∀ args w, (callFunc gf args).run Try.prog w = .ok (.enter gf args) w)
    (hp : ∀ (W : World) (k : Tr) (x : TA), k ∈ l → TIn w k x → Below w.heap.size w W → Calls Try.prog gf (#[.agg #[.int .i64 k.op, .slice x.kA x.kn x.kc, .int .i32 k.rune, .slice x.sA x.sn x.sc, .int .i64 k.at_, .int .i64 k.cap, .string k.name, .int .i64 k.mn, .int .i64 k.mx, .bool k.lzy]] ++ lb) W fun e w' => e = .returned (.bool (p k)) ∧ Below W.heap.size W w') :
    Calls Try.prog 89 #[.slice A n c, .func (.func gf) #[] lb] w fun e w' => e = .returned (.bool (l.any p)) ∧ Below w.heap.size w w' := by
  have hcon := indexT_any hA p gf lb eg hp
  clear hA hp
  go_enter Try.func89, Try.ntmps89
  go_wp2_with (go_at_call 103; refine hcon.mono ?_; rintro e w' ⟨⟨k, rfl, hk⟩, hb'⟩)
  go_ret
  first
    | exact ⟨retB hk, hb'⟩
    | exact ⟨rfl, hb'⟩
end Go.Proofs.Ytbhcgjahlfpjoaa
