/- The statement SemiringLeastPaths of the given rows, over its walk: the call returns true and leaves each argument as it was. -/
import Derived.Test.YtjadgomakoaibaaLawLeastPaths
import Derived.Test.YtjadgomakoaibaaOpenG
import Derived.Test.YtjadgomakoaibaaOpen
import Derived.Test.YtjadgomakoaibaaRows
namespace Go.Proofs.Ytjadgomakoaibaa.semiringLeastPaths
open Go.ChangeShapes Go.WideShapes Go.ChangeAt Go.RowKit

set_option maxRecDepth 100000 in
theorem lifted (os : Os) (started : os.Started) (H : Type) (enc : TypeId × Value → H) :
    ReturnsInHanded {} Try.checked os 4 .any (Rows.semiringLeastPathsSpec.pre6 enc Try.prog Try.f4 Rows.semiringLeastPathsRow.domain false) (Rows.semiringLeastPathsSpec.post enc Try.prog Try.f4 false true false false) := by
  refine returnsInHanded_of_change_sized (C := Try.checked) own started (by kernel_rfl) Try.func4
    (ChangeSpec.witness6 (enc := enc) (C := Try.checked) false ⟨#[], #[.agg #[.slice none 0 0, .slice none 0 0, .slice none 0 0]], []⟩ 8 (by kernel_rfl) (by kernel_rfl) (by kernel_rfl) (by kernel_rfl)) ?_
  intro W base args ds gs before hval0 hW hcnd hsz0 _
  have hval : ∀ (j : Nat) t v, Try.f4.params[j]? = some t → args[j]? = some v → Value.okWide Try.prog W .any base t v := hval0
  have hW' := hW
  obtain ⟨p, q, hA0, hV, rfl, hfz, hnd⟩ := hW
  have hA : DataW.TrodAll enc Try.prog W 0 (fun _ => true) true Try.f4.params.toList args.toList ds p := hA0
  rw [Try.params4] at hA hval
  have hsz : (DataW.weightsEach Try.prog (Try.f4.params.toList ++ Rows.semiringLeastPathsSpec.plain.varTypes Try.prog) (ds ++ gs)).all (· ≤ reachBytes) = true := hsz0
  rw [Try.params4] at hsz
  obtain ⟨v0, vs0, d0, ds0, p0, q0, hargs, rfl, rfl, h0, r0⟩ := trodAll_cons hA
  obtain ⟨rfl, rfl, rfl⟩ := trodAll_nil r0
  obtain rfl : args = #[v0] := by cases args; simp_all
  obtain ⟨rfl, rfl⟩ := trodVars_none hV
  have lt0 : ∀ x ∈ p0, x.block < W.heap.size := by obtain ⟨m, hm⟩ := h0; exact DataW.trod_lt m _ _ _ hm
  have k0 := h0
  have z0 : Sized 28 d0 := sized_arg hsz (j := 0) rfl rfl
  obtain ⟨AW0, nW0, cW0, Ws0, AE0, nE0, cE0, ee0, A0, n0, c0, V0, rfl, w90, x0, y0, q0⟩ := open_graph_sized (hval 0 28 v0 rfl rfl) h0 z0
  refine (law_SemiringLeastPaths W AW0 nW0 cW0 Ws0 AE0 nE0 cE0 ee0 w90 x0 A0 n0 c0 V0 y0 q0).mono fun e W' ⟨he, bel⟩ => ?_
  subst he
  exact ⟨_, rfl, _, _, _, [], _, [], hW', trodAll_mk1 (shut_bool Try.underlying4 _), (trodAll_cons_mk (Below.trod laidOut (by kernel_rfl) (of_decide_eq_true (by kernel_rfl)) k0 bel lt0) trodAll_mk0), rfl, bel.frame _, fun h => by cases h⟩

set_option maxHeartbeats 4000000 in
theorem facts : joinedFacts Try.prog 4 Try.f4 Rows.semiringLeastPathsSpec Rows.semiringLeastPathsRow = true := by
  unfold joinedFacts
  repeat' (with_reducible refine (Bool.and_eq_true_iff).2 ⟨?_, ?_⟩)
  all_goals first
    | (rw [liftsFinal_eq]; as_aux_lemma => kernel_rfl)
    | (rw [make_eq]; as_aux_lemma => kernel_rfl)
    | (rw [mayEnter_eq])
    | (as_aux_lemma => kernel_rfl)

theorem over : Rows.semiringLeastPathsRow.holds Try.pinned (OpenSpec.ofChange Rows.semiringLeastPathsSpec) :=
  OpenClaim.holds_of_wide 4 Try.f4 rfl rfl rfl rfl rfl rfl rfl ⟨rfl, rfl, rfl, rfl, rfl⟩ rfl rfl rfl rfl rfl (by as_aux_lemma => kernel_rfl) Try.func4 facts
    (of_decide_eq_true (by as_aux_lemma => kernel_rfl)) (by unfold Func.isWrapper; rw [if_neg (of_decide_eq_false (by as_aux_lemma => kernel_rfl))]; exact ⟨rfl, rfl⟩)
    (fun os started H enc _ => lifted os started H enc)
end Go.Proofs.Ytjadgomakoaibaa.semiringLeastPaths

namespace Go.Proofs.Ytjadgomakoaibaa
/-- The statement. -/
theorem semiringLeastPaths_proved : Rows.SemiringLeastPathsSaid := semiringLeastPaths.over
#print axioms semiringLeastPaths_proved
end Go.Proofs.Ytjadgomakoaibaa
