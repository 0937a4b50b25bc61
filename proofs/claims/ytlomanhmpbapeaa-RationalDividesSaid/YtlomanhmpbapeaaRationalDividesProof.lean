/- The statement RationalDivides of the given rows, over its walk: the call returns true and leaves each argument as it was. -/
import Derived.Test.YtlomanhmpbapeaaLawDivides
import Derived.Test.YtlomanhmpbapeaaOpenQ
import Derived.Test.YtlomanhmpbapeaaSized
import Derived.Test.YtlomanhmpbapeaaRows
namespace Go.Proofs.Ytlomanhmpbapeaa.rationalDivides
open Go.ChangeShapes Go.WideShapes Go.ChangeAt Go.RowKit

set_option maxRecDepth 100000 in
theorem lifted (os : Os) (started : os.Started) (H : Type) (enc : TypeId × Value → H) :
    ReturnsInHanded {} Try.checked os 6 .any (Rows.rationalDividesSpec.pre6 enc Try.prog Try.f6 Rows.rationalDividesRow.domain false) (Rows.rationalDividesSpec.post enc Try.prog Try.f6 false true false false) := by
  refine returnsInHanded_of_change_sized (C := Try.checked) own started (by kernel_rfl) Try.func6
    (ChangeSpec.witness6 (enc := enc) (C := Try.checked) false ⟨#[], #[.agg #[.bool false, .slice none 0 0, .slice none 0 0], .agg #[.bool false, .slice none 0 0, .slice none 0 0]], []⟩ 8 (by kernel_rfl) (by kernel_rfl) (by kernel_rfl) (by kernel_rfl)) ?_
  intro W base args ds gs before hval0 hW hcnd hsz0 _
  have hval : ∀ (j : Nat) t v, Try.f6.params[j]? = some t → args[j]? = some v → Value.okWide Try.prog W .any base t v := hval0
  have hW' := hW
  obtain ⟨p, q, hA0, hV, rfl, hfz, hnd⟩ := hW
  have hA : DataW.TrodAll enc Try.prog W 0 (fun _ => true) true Try.f6.params.toList args.toList ds p := hA0
  rw [Try.params6] at hA hval
  have hsz : (DataW.weightsEach Try.prog (Try.f6.params.toList ++ Rows.rationalDividesSpec.plain.varTypes Try.prog) (ds ++ gs)).all (· ≤ reachBytes) = true := hsz0
  rw [Try.params6] at hsz
  obtain ⟨v0, vs0, d0, ds0, p0, q0, hargs, rfl, rfl, h0, r0⟩ := trodAll_cons hA
  obtain ⟨v1, vs1, d1, ds1, p1, q1, rfl, rfl, rfl, h1, r1⟩ := trodAll_cons r0
  obtain ⟨rfl, rfl, rfl⟩ := trodAll_nil r1
  obtain rfl : args = #[v0, v1] := by cases args; simp_all
  obtain ⟨rfl, rfl⟩ := trodVars_none hV
  have lt0 : ∀ x ∈ p0, x.block < W.heap.size := by obtain ⟨m, hm⟩ := h0; exact DataW.trod_lt m _ _ _ hm
  have lt1 : ∀ x ∈ p1, x.block < W.heap.size := by obtain ⟨m, hm⟩ := h1; exact DataW.trod_lt m _ _ _ hm
  have k0 := h0
  have k1 := h1
  have z0 : Sized 25 d0 := sized_arg hsz (j := 0) rfl rfl
  obtain ⟨s0, A0, n0, c0, ln0, B0, m0, e0, ld0, rfl, w0, q90, x0, y0⟩ := open_rat_sized (hval 0 25 v0 rfl rfl) h0 z0
  have z1 : Sized 25 d1 := sized_arg hsz (j := 1) rfl rfl
  obtain ⟨s1, A1, n1, c1, ln1, B1, m1, e1, ld1, rfl, w1, q91, x1, y1⟩ := open_rat_sized (hval 1 25 v1 rfl rfl) h1 z1
  refine (law_RationalDivides W s0 A0 n0 c0 ln0 B0 m0 e0 ld0 w0 q90 x0 y0 s1 A1 n1 c1 ln1 B1 m1 e1 ld1 w1 q91 x1 y1).mono fun e W' ⟨he, bel⟩ => ?_
  subst he
  exact ⟨_, rfl, _, _, _, [], _, [], hW', trodAll_mk1 (shut_bool Try.underlying4 _), (trodAll_cons_mk (Below.trod laidOut (by kernel_rfl) (of_decide_eq_true (by kernel_rfl)) k0 bel lt0) (trodAll_cons_mk (Below.trod laidOut (by kernel_rfl) (of_decide_eq_true (by kernel_rfl)) k1 bel lt1) trodAll_mk0)), rfl, bel.frame _, fun h => by cases h⟩

set_option maxHeartbeats 4000000 in
theorem facts : joinedFacts Try.prog 6 Try.f6 Rows.rationalDividesSpec Rows.rationalDividesRow = true := by
  unfold joinedFacts
  repeat' (with_reducible refine (Bool.and_eq_true_iff).2 ⟨?_, ?_⟩)
  all_goals first
    | (rw [liftsFinal_eq]; as_aux_lemma => kernel_rfl)
    | (rw [make_eq]; as_aux_lemma => kernel_rfl)
    | (rw [mayEnter_eq])
    | (as_aux_lemma => kernel_rfl)

theorem over : Rows.rationalDividesRow.holds Try.pinned (OpenSpec.ofChange Rows.rationalDividesSpec) :=
  OpenClaim.holds_of_wide 6 Try.f6 rfl rfl rfl rfl rfl rfl rfl ⟨rfl, rfl, rfl, rfl, rfl⟩ rfl rfl rfl rfl rfl (by as_aux_lemma => kernel_rfl) Try.func6 facts
    (of_decide_eq_true (by as_aux_lemma => kernel_rfl)) (by unfold Func.isWrapper; rw [if_neg (of_decide_eq_false (by as_aux_lemma => kernel_rfl))]; exact ⟨rfl, rfl⟩)
    (fun os started H enc _ => lifted os started H enc)
end Go.Proofs.Ytlomanhmpbapeaa.rationalDivides

namespace Go.Proofs.Ytlomanhmpbapeaa
/-- The statement. -/
theorem rationalDivides_proved : Rows.RationalDividesSaid := rationalDivides.over
#print axioms rationalDivides_proved
end Go.Proofs.Ytlomanhmpbapeaa
