/- The statement RationalFloors of the given rows, over its walk: the call returns true and leaves each argument as it was. -/
import Derived.Test.YtlomanhmpbapeaaLawFloors
import Derived.Test.YtlomanhmpbapeaaOpenQ
import Derived.Test.YtlomanhmpbapeaaSized
import Derived.Test.YtlomanhmpbapeaaRows
namespace Go.Proofs.Ytlomanhmpbapeaa.rationalFloors
open Go.ChangeShapes Go.WideShapes Go.ChangeAt Go.RowKit

set_option maxRecDepth 100000 in
theorem lifted (os : Os) (started : os.Started) (H : Type) (enc : TypeId × Value → H) :
    ReturnsInHanded {} Try.checked os 13 .any (Rows.rationalFloorsSpec.pre6 enc Try.prog Try.f13 Rows.rationalFloorsRow.domain false) (Rows.rationalFloorsSpec.post enc Try.prog Try.f13 false true false false) := by
  refine returnsInHanded_of_change_sized (C := Try.checked) own started (by kernel_rfl) Try.func13
    (ChangeSpec.witness6 (enc := enc) (C := Try.checked) false ⟨#[], #[.agg #[.bool false, .slice none 0 0, .slice none 0 0]], []⟩ 8 (by kernel_rfl) (by kernel_rfl) (by kernel_rfl) (by kernel_rfl)) ?_
  intro W base args ds gs before hval0 hW hcnd hsz0 _
  have hval : ∀ (j : Nat) t v, Try.f13.params[j]? = some t → args[j]? = some v → Value.okWide Try.prog W .any base t v := hval0
  have hW' := hW
  obtain ⟨p, q, hA0, hV, rfl, hfz, hnd⟩ := hW
  have hA : DataW.TrodAll enc Try.prog W 0 (fun _ => true) true Try.f13.params.toList args.toList ds p := hA0
  rw [Try.params13] at hA hval
  have hsz : (DataW.weightsEach Try.prog (Try.f13.params.toList ++ Rows.rationalFloorsSpec.plain.varTypes Try.prog) (ds ++ gs)).all (· ≤ reachBytes) = true := hsz0
  rw [Try.params13] at hsz
  obtain ⟨v0, vs0, d0, ds0, p0, q0, hargs, rfl, rfl, h0, r0⟩ := trodAll_cons hA
  obtain ⟨rfl, rfl, rfl⟩ := trodAll_nil r0
  obtain rfl : args = #[v0] := by cases args; simp_all
  obtain ⟨rfl, rfl⟩ := trodVars_none hV
  have lt0 : ∀ x ∈ p0, x.block < W.heap.size := by obtain ⟨m, hm⟩ := h0; exact DataW.trod_lt m _ _ _ hm
  have k0 := h0
  have z0 : Sized 25 d0 := sized_arg hsz (j := 0) rfl rfl
  obtain ⟨s0, A0, n0, c0, ln0, B0, m0, e0, ld0, rfl, w0, q90, x0, y0⟩ := open_rat_sized (hval 0 25 v0 rfl rfl) h0 z0
  refine (law_RationalFloors W s0 A0 n0 c0 ln0 B0 m0 e0 ld0 w0 q90 x0 y0).mono fun e W' ⟨he, bel⟩ => ?_
  subst he
  exact ⟨_, rfl, _, _, _, [], _, [], hW', trodAll_mk1 (shut_bool Try.underlying4 _), (trodAll_cons_mk (Below.trod laidOut (by kernel_rfl) (of_decide_eq_true (by kernel_rfl)) k0 bel lt0) trodAll_mk0), rfl, bel.frame _, fun h => by cases h⟩

set_option maxHeartbeats 4000000 in
theorem facts : joinedFacts Try.prog 13 Try.f13 Rows.rationalFloorsSpec Rows.rationalFloorsRow = true := by
  unfold joinedFacts
  repeat' (with_reducible refine (Bool.and_eq_true_iff).2 ⟨?_, ?_⟩)
  all_goals first
    | (rw [liftsFinal_eq]; as_aux_lemma => kernel_rfl)
    | (rw [make_eq]; as_aux_lemma => kernel_rfl)
    | (rw [mayEnter_eq])
    | (as_aux_lemma => kernel_rfl)

theorem over : Rows.rationalFloorsRow.holds Try.pinned (OpenSpec.ofChange Rows.rationalFloorsSpec) :=
  OpenClaim.holds_of_wide 13 Try.f13 rfl rfl rfl rfl rfl rfl rfl ⟨rfl, rfl, rfl, rfl, rfl⟩ rfl rfl rfl rfl rfl (by as_aux_lemma => kernel_rfl) Try.func13 facts
    (of_decide_eq_true (by as_aux_lemma => kernel_rfl)) (by unfold Func.isWrapper; rw [if_neg (of_decide_eq_false (by as_aux_lemma => kernel_rfl))]; exact ⟨rfl, rfl⟩)
    (fun os started H enc _ => lifted os started H enc)
end Go.Proofs.Ytlomanhmpbapeaa.rationalFloors

namespace Go.Proofs.Ytlomanhmpbapeaa
/-- The statement. -/
theorem rationalFloors_proved : Rows.RationalFloorsSaid := rationalFloors.over
#print axioms rationalFloors_proved
end Go.Proofs.Ytlomanhmpbapeaa
