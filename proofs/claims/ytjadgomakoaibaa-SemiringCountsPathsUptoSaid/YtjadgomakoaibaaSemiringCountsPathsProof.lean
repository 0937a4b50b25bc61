/- The statement SemiringCountsPaths of the given rows, in its second form, over its walk: where what is read is of bulk at most 1048576, the call returns true and leaves each argument as it was. -/
import Derived.Test.YtjadgomakoaibaaLawCountsPaths
import Derived.Test.YtjadgomakoaibaaBulkG
import Derived.Deep.CondSized
import Derived.Test.YtjadgomakoaibaaSized
import Derived.Test.YtjadgomakoaibaaRows
namespace Go.Proofs.Ytjadgomakoaibaa.semiringCountsPaths
open Go.ChangeShapes Go.WideShapes Go.ChangeAt Go.RowKit

set_option maxRecDepth 100000 in
theorem lifted (os : Os) (started : os.Started) (H : Type) (enc : TypeId × Value → H) (Fi : Stop.Interp) :
    ReturnsInHanded {} Try.checked os 3 .any ((Rows.OpenSpec.upto Rows.semiringCountsPathsSpec).pre6 enc Try.prog Try.f3 Rows.semiringCountsPathsUptoRow.domain false) (((Rows.OpenSpec.upto Rows.semiringCountsPathsSpec).at Fi).post enc Try.prog Try.f3 false true false false) := by
  refine returnsInHanded_of_cond_sized (C := Try.checked) (s := Rows.OpenSpec.upto Rows.semiringCountsPathsSpec) (k := Rows.uptoSmall) rfl own started (by kernel_rfl) Try.func3
    (OpenSpec.witness (enc := enc) (C := Try.checked) (s := Rows.OpenSpec.upto Rows.semiringCountsPathsSpec) (k := Rows.uptoSmall) rfl false ⟨#[], #[.agg #[.slice none 0 0, .slice none 0 0, .slice none 0 0]], []⟩ 8 (by kernel_rfl) (by kernel_rfl) (by kernel_rfl)
      (x := ([.agg [.agg [.nil, .nil], .nil]], [], [])) (by kernel_rfl) rfl (by kernel_rfl)) ?_
  intro W base args ds gs before hval0 hW hcnd hbulk0 hsz0 _
  have hval : ∀ (j : Nat) t v, Try.f3.params[j]? = some t → args[j]? = some v → Value.okWide Try.prog W .any base t v := hval0
  have hW' := hW
  obtain ⟨p, q, hA0, hV, rfl, hfz, hnd⟩ := hW
  have hA : DataW.TrodAll enc Try.prog W 0 (fun _ => true) true Try.f3.params.toList args.toList ds p := hA0
  rw [Try.params3] at hA hval
  have hsz : (DataW.weightsEach Try.prog (Try.f3.params.toList ++ Rows.semiringCountsPathsSpec.plain.varTypes Try.prog) (ds ++ gs)).all (· ≤ reachBytes) = true := hsz0
  rw [Try.params3] at hsz
  obtain ⟨v0, vs0, d0, ds0, p0, q0, hargs, rfl, rfl, h0, r0⟩ := trodAll_cons hA
  obtain ⟨rfl, rfl, rfl⟩ := trodAll_nil r0
  obtain rfl : args = #[v0] := by cases args; simp_all
  obtain ⟨rfl, rfl⟩ := trodVars_none hV
  have lt0 : ∀ x ∈ p0, x.block < W.heap.size := by obtain ⟨m, hm⟩ := h0; exact DataW.trod_lt m _ _ _ hm
  have k0 := h0
  have z0 : Sized 28 d0 := sized_arg hsz (j := 0) rfl rfl
  obtain ⟨AW0, nW0, cW0, Ws0, AE0, nE0, cE0, ee0, A0, n0, c0, V0, rfl, w90, x0, y0, q0, s0⟩ := open_graph_bulk (hval 0 28 v0 rfl rfl) h0 z0
  have hbulk : Rows.uptoBulk d0 ≤ 1048576 := by
    have h9 : Rows.uptoBulkAll ([d0] ++ []) ≤ 1048576 := of_decide_eq_true hbulk0
    have h8 : Rows.uptoBulk d0 ≤ Rows.uptoBulkAll ([d0] ++ []) := bulk_mem (by simp)
    exact Nat.le_trans h8 h9
  refine (law_SemiringCountsPaths W AW0 nW0 cW0 Ws0 AE0 nE0 cE0 ee0 w90 x0 A0 n0 c0 V0 y0 (by omega) (fun i hi => Nat.le_trans (s0 i hi) (by omega))).mono fun e W' ⟨he, bel⟩ => ?_
  subst he
  exact ⟨_, rfl, _, _, _, [], _, [], hW', trodAll_mk1 (shut_bool Try.underlying4 _), (trodAll_cons_mk (Below.trod laidOut (by kernel_rfl) (of_decide_eq_true (by kernel_rfl)) k0 bel lt0) trodAll_mk0), rfl, bel.frame _, fun h => by cases h⟩

set_option maxHeartbeats 4000000 in
theorem facts : joinedFacts Try.prog 3 Try.f3 (Rows.OpenSpec.upto Rows.semiringCountsPathsSpec).bare Rows.semiringCountsPathsUptoRow = true := by
  unfold joinedFacts
  repeat' (with_reducible refine (Bool.and_eq_true_iff).2 ⟨?_, ?_⟩)
  all_goals first
    | (rw [liftsFinal_eq]; as_aux_lemma => kernel_rfl)
    | (rw [make_eq]; as_aux_lemma => kernel_rfl)
    | (rw [mayEnter_eq])
    | (as_aux_lemma => kernel_rfl)

theorem over : Rows.semiringCountsPathsUptoRow.holds Try.pinned (Rows.OpenSpec.upto Rows.semiringCountsPathsSpec) :=
  OpenClaim.holds_of_cond 3 Try.f3 rfl rfl rfl rfl rfl rfl rfl ⟨rfl, rfl, rfl, rfl, rfl⟩ rfl rfl rfl rfl rfl (by as_aux_lemma => kernel_rfl) Try.func3 facts
    (of_decide_eq_true (by as_aux_lemma => kernel_rfl)) (by unfold Func.isWrapper; rw [if_neg (of_decide_eq_false (by as_aux_lemma => kernel_rfl))]; exact ⟨rfl, rfl⟩)
    (fun os started H enc _ Fi => lifted os started H enc Fi)
end Go.Proofs.Ytjadgomakoaibaa.semiringCountsPaths

namespace Go.Proofs.Ytjadgomakoaibaa
/-- The statement. -/
theorem semiringCountsPathsUpto_proved : Rows.SemiringCountsPathsUptoSaid := semiringCountsPaths.over
#print axioms semiringCountsPathsUpto_proved
end Go.Proofs.Ytjadgomakoaibaa
