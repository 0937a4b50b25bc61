/- The statement SemiringEnumerators of the given rows, over its walk: the call returns true and leaves each argument as it was. -/
import Derived.Test.YtonimfogmplgdaaLawEnumerators
import Derived.Test.YtonimfogmplgdaaOpenP
import Derived.Test.YtonimfogmplgdaaRows
namespace Go.Proofs.Ytonimfogmplgdaa.semiringEnumerators
open Go.ChangeShapes Go.WideShapes Go.ChangeAt Go.RowKit

set_option maxRecDepth 100000 in
theorem lifted (os : Os) (started : os.Started) (H : Type) (enc : TypeId × Value → H) :
    ReturnsInHanded {} Try.checked os 4 .any (Rows.semiringEnumeratorsSpec.pre6 enc Try.prog Try.f4 Rows.semiringEnumeratorsRow.domain false) (Rows.semiringEnumeratorsSpec.post enc Try.prog Try.f4 false true false false) := by
  refine returnsInHanded_of_change_sized (C := Try.checked) own started (by kernel_rfl) Try.func4
    (ChangeSpec.witness6 (enc := enc) (C := Try.checked) false ⟨#[], #[.slice none 0 0, .slice none 0 0, .slice none 0 0], []⟩ 8 (by kernel_rfl) (by kernel_rfl) (by kernel_rfl) (by kernel_rfl)) ?_
  intro W base args ds gs before hval0 hW hcnd hsz0 _
  have hval : ∀ (j : Nat) t v, Try.f4.params[j]? = some t → args[j]? = some v → Value.okWide Try.prog W .any base t v := hval0
  have hW' := hW
  obtain ⟨p, q, hA0, hV, rfl, hfz, hnd⟩ := hW
  have hA : DataW.TrodAll enc Try.prog W 0 (fun _ => true) true Try.f4.params.toList args.toList ds p := hA0
  rw [Try.params4] at hA hval
  have hsz : (DataW.weightsEach Try.prog (Try.f4.params.toList ++ Rows.semiringEnumeratorsSpec.plain.varTypes Try.prog) (ds ++ gs)).all (· ≤ reachBytes) = true := hsz0
  rw [Try.params4] at hsz
  obtain ⟨v0, vs0, d0, ds0, p0, q0, hargs, rfl, rfl, h0, r0⟩ := trodAll_cons hA
  obtain ⟨v1, vs1, d1, ds1, p1, q1, rfl, rfl, rfl, h1, r1⟩ := trodAll_cons r0
  obtain ⟨v2, vs2, d2, ds2, p2, q2, rfl, rfl, rfl, h2, r2⟩ := trodAll_cons r1
  obtain ⟨rfl, rfl, rfl⟩ := trodAll_nil r2
  obtain rfl : args = #[v0, v1, v2] := by cases args; simp_all
  obtain ⟨rfl, rfl⟩ := trodVars_none hV
  have lt0 : ∀ x ∈ p0, x.block < W.heap.size := by obtain ⟨m, hm⟩ := h0; exact DataW.trod_lt m _ _ _ hm
  have lt1 : ∀ x ∈ p1, x.block < W.heap.size := by obtain ⟨m, hm⟩ := h1; exact DataW.trod_lt m _ _ _ hm
  have lt2 : ∀ x ∈ p2, x.block < W.heap.size := by obtain ⟨m, hm⟩ := h2; exact DataW.trod_lt m _ _ _ hm
  have k0 := h0
  have k1 := h1
  have k2 := h2
  have z0 : Sized 29 d0 := sized_arg hsz (j := 0) rfl rfl
  obtain ⟨A0, n0, c0, l0, rfl, w0, y0, q0⟩ := open_polys_sized (hval 0 29 v0 rfl rfl) h0 z0
  have z1 : Sized 29 d1 := sized_arg hsz (j := 1) rfl rfl
  obtain ⟨A1, n1, c1, l1, rfl, w1, y1, q1⟩ := open_polys_sized (hval 1 29 v1 rfl rfl) h1 z1
  have z2 : Sized 29 d2 := sized_arg hsz (j := 2) rfl rfl
  obtain ⟨A2, n2, c2, l2, rfl, w2, y2, q2⟩ := open_polys_sized (hval 2 29 v2 rfl rfl) h2 z2
  refine (law_SemiringEnumerators W A0 n0 c0 l0 w0 y0 q0 A1 n1 c1 l1 w1 y1 q1 A2 n2 c2 l2 w2 y2 q2).mono fun e W' ⟨he, bel⟩ => ?_
  subst he
  exact ⟨_, rfl, _, _, _, [], _, [], hW', trodAll_mk1 (shut_bool Try.underlying4 _), (trodAll_cons_mk (Below.trod laidOut (by kernel_rfl) (of_decide_eq_true (by kernel_rfl)) k0 bel lt0) (trodAll_cons_mk (Below.trod laidOut (by kernel_rfl) (of_decide_eq_true (by kernel_rfl)) k1 bel lt1) (trodAll_cons_mk (Below.trod laidOut (by kernel_rfl) (of_decide_eq_true (by kernel_rfl)) k2 bel lt2) trodAll_mk0))), rfl, bel.frame _, fun h => by cases h⟩

set_option maxHeartbeats 4000000 in
theorem facts : joinedFacts Try.prog 4 Try.f4 Rows.semiringEnumeratorsSpec Rows.semiringEnumeratorsRow = true := by
  unfold joinedFacts
  repeat' (with_reducible refine (Bool.and_eq_true_iff).2 ⟨?_, ?_⟩)
  all_goals first
    | (rw [liftsFinal_eq]; as_aux_lemma => kernel_rfl)
    | (rw [make_eq]; as_aux_lemma => kernel_rfl)
    | (rw [mayEnter_eq])
    | (as_aux_lemma => kernel_rfl)

theorem over : Rows.semiringEnumeratorsRow.holds Try.pinned (OpenSpec.ofChange Rows.semiringEnumeratorsSpec) :=
  OpenClaim.holds_of_wide 4 Try.f4 rfl rfl rfl rfl rfl rfl rfl ⟨rfl, rfl, rfl, rfl, rfl⟩ rfl rfl rfl rfl rfl (by as_aux_lemma => kernel_rfl) Try.func4 facts
    (of_decide_eq_true (by as_aux_lemma => kernel_rfl)) (by unfold Func.isWrapper; rw [if_neg (of_decide_eq_false (by as_aux_lemma => kernel_rfl))]; exact ⟨rfl, rfl⟩)
    (fun os started H enc _ => lifted os started H enc)
end Go.Proofs.Ytonimfogmplgdaa.semiringEnumerators

namespace Go.Proofs.Ytonimfogmplgdaa
/-- The statement. -/
theorem semiringEnumerators_proved : Rows.SemiringEnumeratorsSaid := semiringEnumerators.over
#print axioms semiringEnumerators_proved
end Go.Proofs.Ytonimfogmplgdaa
