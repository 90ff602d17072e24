/- TreesTwice: for every input the law returns true, and each argument reads behind the call as it read before. -/
import Derived.Test.YtbhcgjahlfpjoaaHeadV
import Derived.Test.YtbhcgjahlfpjoaaRowT
import Derived.Test.YtbhcgjahlfpjoaaQ46
namespace Go.Proofs.Ytbhcgjahlfpjoaa.treesTwice
open Go.ChangeShapes Go.WideShapes Go.ChangeAt Go.RowKit Go.Deep
open Go.ChangeMaps (open_string shut_string)

set_option maxRecDepth 100000 in
theorem lifted (os : Os) (started : os.Started) (H : Type) (enc : TypeId × Value → H) :
    ReturnsInHanded {} Try.checked os 9 .any (Rows.treesTwiceSpec.pre6 enc Try.prog Try.f9 Rows.treesTwiceRow.domain false) (Rows.treesTwiceSpec.post enc Try.prog Try.f9 false true false false) := by
  refine returnsInHanded_of_change_sized (C := Try.checked) own started (by kernel_rfl) Try.func9
    (ChangeSpec.witness6 (enc := enc) (C := Try.checked) false ⟨#[], #[.agg #[.int .i64 0, .slice none 0 0, .int .i32 0, .slice none 0 0, .int .i64 0, .int .i64 0, .string ⟨#[]⟩, .int .i64 0, .int .i64 0, .bool false]], []⟩ 8 (by kernel_rfl) (by kernel_rfl) (by kernel_rfl) (by kernel_rfl)) ?_
  intro W base args ds gs before hval0 hW hcnd hsz0 _
  have hsz : (DataW.weightsEach Try.prog (Try.f9.params.toList ++ Rows.treesTwiceSpec.plain.varTypes Try.prog) (ds ++ gs)).all (· ≤ reachBytes) = true := hsz0
  have hval : ∀ (j : Nat) t v, Try.f9.params[j]? = some t → args[j]? = some v → Value.okWide Try.prog W .any base t v := hval0
  have hW' := hW
  obtain ⟨p, q, hA0, hV, rfl, hfz, hnd⟩ := hW
  have hA : DataW.TrodAll enc Try.prog W 0 (fun _ => true) true Try.f9.params.toList args.toList ds p := hA0
  rw [Try.params9] at hA hval hsz
  obtain ⟨v0, vs0, d0, ds0, p0, q0, hargs, rfl, rfl, h0, r0⟩ := trodAll_cons hA
  obtain ⟨rfl, rfl, rfl⟩ := trodAll_nil r0
  obtain rfl : args = #[v0] := by cases args; simp_all
  obtain ⟨rfl, rfl⟩ := trodVars_none hV
  have k0 := h0
  have lt0 : ∀ x ∈ p0, x.block < W.heap.size := by obtain ⟨m, hm⟩ := k0; exact DataW.trod_lt m _ _ _ hm
  have sz0 : ∀ q ∈ d0.weights Try.prog 27, q ≤ 140737488351232 := fun q hq => by have := List.all_eq_true.1 hsz _ (DataW.weights_mem_each (j := 0) (t := 27) rfl rfl q hq); rw [show reachBytes = 140737488351232 by kernel_rfl] at this; exact of_decide_eq_true this
  obtain ⟨a0, kA0, kn0, kc0, sA0, sn0, sc0, rfl, w0⟩ := open_tree (hval 0 27 v0 rfl rfl) h0 sz0
  clear hA0 hval0
  refine (treesTwice_walk w0).mono fun e W' ⟨he, bel⟩ => ?_
  subst he
  exact ⟨_, rfl, _, _, _, [], _, [], hW', trodAll_mk1 (shut_bool Try.underlying4 _), (trodAll_cons_mk (Below.trod laidOut (by kernel_rfl) (of_decide_eq_true (by kernel_rfl)) k0 bel lt0) trodAll_mk0), rfl, bel.frame _, fun h => by cases h⟩

theorem lf : Rows.treesTwiceRow.lifted = false := rfl
theorem mk : Rows.treesTwiceRow.make = .cut := rfl
set_option maxHeartbeats 8000000 in
theorem closed : joinedFacts Try.prog 9 Try.f9 Rows.treesTwiceSpec Rows.treesTwiceRow = true := by
  unfold joinedFacts
  repeat' (with_reducible refine and2 ?_ ?_)
  all_goals try (with_reducible exact mayEnterT)
  all_goals try (with_reducible exact liftedB lf)
  all_goals try (with_reducible exact makeB mk)
  all_goals (as_aux_lemma => kernel_rfl)

/-- The statement. -/
theorem holds : Rows.TreesTwiceSaid :=
  OpenClaim.holds_of_wide 9 Try.f9 rfl rfl rfl rfl rfl rfl rfl ⟨rfl, rfl, rfl, rfl, rfl⟩ rfl rfl rfl rfl rfl (by kernel_rfl) Try.func9 closed
    (of_decide_eq_true (by kernel_rfl)) (by unfold Func.isWrapper; first | (rw [if_pos (by decide +kernel)]; kernel_rfl) | (rw [if_neg (by decide +kernel)]; exact ⟨rfl, rfl⟩))
    (fun os started H enc _ => lifted os started H enc)
#print axioms holds
end Go.Proofs.Ytbhcgjahlfpjoaa.treesTwice
