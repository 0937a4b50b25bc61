/- The statement RationalPowers of the given rows, over its walk: the call returns true and leaves each argument as it was. -/
import Derived.Test.YtlomanhmpbapeaaLawQPowers
import Derived.Test.YtlomanhmpbapeaaOpenQ
import Derived.Test.YtlomanhmpbapeaaSized
import Derived.Test.YtlomanhmpbapeaaRows
namespace Go.Proofs.Ytlomanhmpbapeaa.rationalPowers
open Go.ChangeShapes Go.WideShapes Go.ChangeAt Go.RowKit

set_option maxRecDepth 100000 in
theorem lifted (os : Os) (started : os.Started) (H : Type) (enc : TypeId × Value → H) :
    ReturnsInHanded {} Try.checked os 7 .any (Rows.rationalPowersSpec.pre6 enc Try.prog Try.f7 Rows.rationalPowersRow.domain false) (Rows.rationalPowersSpec.post enc Try.prog Try.f7 false true false false) := by
  refine returnsInHanded_of_change_sized (C := Try.checked) own started (by kernel_rfl) Try.func7
    (ChangeSpec.witness6 (enc := enc) (C := Try.checked) false ⟨#[], #[.agg #[.bool false, .slice none 0 0, .slice none 0 0], .int .i64 0], []⟩ 8 (by kernel_rfl) (by kernel_rfl) (by kernel_rfl) (by kernel_rfl)) ?_
  intro W base args ds gs before hval0 hW hcnd hsz0 _
  have hval : ∀ (j : Nat) t v, Try.f7.params[j]? = some t → args[j]? = some v → Value.okWide Try.prog W .any base t v := hval0
  have hW' := hW
  obtain ⟨p, q, hA0, hV, rfl, hfz, hnd⟩ := hW
  have hA : DataW.TrodAll enc Try.prog W 0 (fun _ => true) true Try.f7.params.toList args.toList ds p := hA0
  rw [Try.params7] at hA hval
  have hsz : (DataW.weightsEach Try.prog (Try.f7.params.toList ++ Rows.rationalPowersSpec.plain.varTypes Try.prog) (ds ++ gs)).all (· ≤ reachBytes) = true := hsz0
  rw [Try.params7] at hsz
  obtain ⟨v0, vs0, d0, ds0, p0, q0, hargs, rfl, rfl, h0, r0⟩ := trodAll_cons hA
  obtain ⟨v1, vs1, d1, ds1, p1, q1, rfl, rfl, rfl, h1, r1⟩ := trodAll_cons r0
  obtain ⟨rfl, rfl, rfl⟩ := trodAll_nil r1
  obtain rfl : args = #[v0, v1] := by cases args; simp_all
  obtain ⟨rfl, rfl⟩ := trodVars_none hV
  have lt0 : ∀ x ∈ p0, x.block < W.heap.size := by obtain ⟨m, hm⟩ := h0; exact DataW.trod_lt m _ _ _ hm
  have lt1 : ∀ x ∈ p1, x.block < W.heap.size := by obtain ⟨m, hm⟩ := h1; exact DataW.trod_lt m _ _ _ hm
  have k0 := h0
  have k1 := h1
  have z0 : Sized 25 d0 := sized_arg hsz (j := 0) rfl rfl
  obtain ⟨s0, A0, n0, c0, ln0, B0, m0, e0, ld0, rfl, w0, q90, x0, y0⟩ := open_rat_sized (hval 0 25 v0 rfl rfl) h0 z0
  obtain ⟨z1, rfl, -, -, w1⟩ := open_int Try.underlying3 (hval 1 3 v1 rfl rfl) h1
  have b1 := int_of_i64 w1
  refine (law_RationalPowers W s0 A0 n0 c0 ln0 B0 m0 e0 ld0 w0 q90 x0 y0 z1 b1).mono fun e W' ⟨he, bel⟩ => ?_
  subst he
  exact ⟨_, rfl, _, _, _, [], _, [], hW', trodAll_mk1 (shut_bool Try.underlying4 _), (trodAll_cons_mk (Below.trod laidOut (by kernel_rfl) (of_decide_eq_true (by kernel_rfl)) k0 bel lt0) (trodAll_cons_mk (Below.trod laidOut (by kernel_rfl) (of_decide_eq_true (by kernel_rfl)) k1 bel lt1) trodAll_mk0)), rfl, bel.frame _, fun h => by cases h⟩

set_option maxHeartbeats 4000000 in
theorem facts : joinedFacts Try.prog 7 Try.f7 Rows.rationalPowersSpec Rows.rationalPowersRow = true := by
  unfold joinedFacts
  repeat' (with_reducible refine (Bool.and_eq_true_iff).2 ⟨?_, ?_⟩)
  all_goals first
    | (rw [liftsFinal_eq]; as_aux_lemma => kernel_rfl)
    | (rw [make_eq]; as_aux_lemma => kernel_rfl)
    | (rw [mayEnter_eq])
    | (as_aux_lemma => kernel_rfl)

theorem over : Rows.rationalPowersRow.holds Try.pinned (OpenSpec.ofChange Rows.rationalPowersSpec) :=
  OpenClaim.holds_of_wide 7 Try.f7 rfl rfl rfl rfl rfl rfl rfl ⟨rfl, rfl, rfl, rfl, rfl⟩ rfl rfl rfl rfl rfl (by as_aux_lemma => kernel_rfl) Try.func7 facts
    (of_decide_eq_true (by as_aux_lemma => kernel_rfl)) (by unfold Func.isWrapper; rw [if_neg (of_decide_eq_false (by as_aux_lemma => kernel_rfl))]; exact ⟨rfl, rfl⟩)
    (fun os started H enc _ => lifted os started H enc)
end Go.Proofs.Ytlomanhmpbapeaa.rationalPowers

namespace Go.Proofs.Ytlomanhmpbapeaa
/-- The statement. -/
theorem rationalPowers_proved : Rows.RationalPowersSaid := rationalPowers.over
#print axioms rationalPowers_proved
end Go.Proofs.Ytlomanhmpbapeaa
