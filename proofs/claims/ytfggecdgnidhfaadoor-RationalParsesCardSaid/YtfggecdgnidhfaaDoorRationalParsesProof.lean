/- The statement RationalParses of the given rows, over its walk: the call returns true and leaves each argument as it was. -/
import Derived.Test.YtfggecdgnidhfaaDoorLawQParses
import Derived.Test.YtfggecdgnidhfaaDoorOpen
import Derived.Test.YtfggecdgnidhfaaDoorCards
import Derived.Test.YtfggecdgnidhfaaDoorTie
import Derived.Test.YtfggecdgnidhfaaDoorWrapS
import Derived.Lay
import Derived.LaidOnce
import Derived.SevenTiedAt
namespace Go.Proofs.YtfggecdgnidhfaaDoor.rationalParses
open Go.ChangeShapes Go.WideShapes Go.ChangeAt Go.RowKit

set_option maxRecDepth 100000 in
set_option maxHeartbeats 4000000 in
theorem lifted (os : Os) (started : os.Started) (H : Type) (enc : TypeId × Value → H) :
    ReturnsInHanded {} Tryd.checked os 6 .any (fun w args => (Rows.rationalParsesSpec.pre enc Tryd.prog Tryd.f6 [] false w args ∧ laidMetH Tryd.prog Rows.rationalParsesRow.laid w) ∧ sizedMet enc Tryd.prog Tryd.f6 (OpenSpec.ofChange Rows.rationalParsesSpec) false w args)
      (Rows.rationalParsesSpec.post enc Tryd.prog Tryd.f6 false true false false) := by
  refine wrap_and_shaped (C := Tryd.checked) (X := fun w _ => laidMetH Tryd.prog Rows.rationalParsesRow.laid w) (fun _ _ _ hh h => h.of_heap hh) own started (by kernel_rfl) Tryd.func6
    (ChangeSpec.witness_shaped (enc := enc) (C := Tryd.checked) (os := os) (X := fun w _ => laidMetH Tryd.prog Rows.rationalParsesRow.laid w) false (World.laidAll Tryd.prog os Rows.rationalParsesRow.laid) #[.string ByteArray.empty] 8 (World.laidAll_os _ _ _)
      (World.shaped_of_ZipB (by kernel_rfl) (by kernel_rfl)) (by kernel_rfl) (by kernel_rfl) (by kernel_rfl)
      (by rw [MakeChecks.laidMetH_plain _ _ _ (by kernel_rfl)]; exact laidMet_laidAll _ (by kernel_rfl) (by kernel_rfl))) ?_
  intro W base args ds gs before hval0 hW hcnd _ hL hsh9
  have hval : ∀ (j : Nat) t v, Tryd.f6.params[j]? = some t → args[j]? = some v → Value.okWide Tryd.prog W .any base t v := hval0
  have hW' := hW
  obtain ⟨p, q, hA0, hV, rfl, hfz, hnd⟩ := hW
  have hA : DataW.TrodAll enc Tryd.prog W 0 (fun _ => true) true Tryd.f6.params.toList args.toList ds p := hA0
  rw [Tryd.params6] at hA hval
  obtain ⟨v0, vs0, d0, ds0, p0, q0, hargs, rfl, rfl, h0, r0⟩ := trodAll_cons hA
  obtain ⟨rfl, rfl, rfl⟩ := trodAll_nil r0
  obtain rfl : args = #[v0] := by cases args; simp_all
  obtain ⟨rfl, rfl⟩ := trodVars_none hV
  have lt0 : ∀ x ∈ p0, x.block < W.heap.size := by obtain ⟨m, hm⟩ := h0; exact DataW.trod_lt m _ _ _ hm
  have k0 := h0
  obtain ⟨a0, rfl, -, -, w0⟩ := Go.ChangeMaps.open_string Tryd.underlying9 (hval 0 9 v0 rfl rfl) h0
  refine (law_RationalParses W (max_cell hsh9) a0 w0).mono fun e W' ⟨he, bel⟩ => ?_
  subst he
  exact ⟨_, rfl, _, _, _, [], _, [], hW', trodAll_mk1 (shut_bool Tryd.underlying4 _), (trodAll_cons_mk (Below.trod laidOut (by kernel_rfl) (of_decide_eq_true (by kernel_rfl)) k0 bel lt0) trodAll_mk0), rfl, bel.frame _, fun h => by cases h⟩

set_option maxHeartbeats 4000000 in
theorem facts : joinedFacts Tryd.prog 6 Tryd.f6 Rows.rationalParsesSpec Rows.rationalParsesRow = true := by
  unfold joinedFacts
  repeat' (with_reducible refine (Bool.and_eq_true_iff).2 ⟨?_, ?_⟩)
  all_goals first
    | (rw [liftsFinal_eq]; as_aux_lemma => kernel_rfl)
    | (rw [make_eq]; as_aux_lemma => kernel_rfl)
    | (rw [mayEnter_eq])
    | (as_aux_lemma => kernel_rfl)

theorem over : Rows.rationalParsesRow.holds Tryd.pinned (OpenSpec.ofChange Rows.rationalParsesSpec) :=
  OpenClaim.holds_of_wide 6 Tryd.f6 rfl rfl rfl rfl rfl rfl rfl ⟨rfl, rfl, rfl, rfl, rfl⟩ rfl rfl rfl rfl rfl (by as_aux_lemma => kernel_rfl) Tryd.func6 facts
    (of_decide_eq_true (by as_aux_lemma => kernel_rfl)) (by unfold Func.isWrapper; rw [if_neg (of_decide_eq_false (by as_aux_lemma => kernel_rfl))]; exact ⟨rfl, rfl⟩)
    (fun os started H enc _ => lifted os started H enc)
end Go.Proofs.YtfggecdgnidhfaaDoor.rationalParses

namespace Go.Proofs.YtfggecdgnidhfaaDoor
theorem rationalParses_stand (j : Nat) (u : TypeId) (h : Tryd.f6.params[j]? = some u) : Tryd.prog.wantsStandIn u = false := by
  have hm : u ∈ Tryd.f6.params.toList := by simpa using Array.mem_of_getElem? h
  have hall : (Tryd.f6.params.toList.all fun u => !Tryd.prog.wantsStandIn u) = true := by kernel_rfl
  simpa using List.all_eq_true.1 hall u hm
/-- The statement: the card over the row. -/
theorem rationalParsesCard_proved : Rows.RationalParsesCardSaid :=
  Claim7.holds_tied_plain_at .later [] [.data, .pinned] true Rows.rationalParsesCard.stood.harness false rationalParses.over (fun _ h => by cases h) (by kernel_rfl) (fun _ h => by cases h) rationalParses_row_tie rfl ⟨rfl, rfl⟩ (by kernel_rfl) rfl
    (fun f fn hf hfn => by
      obtain rfl : f = 6 := Option.some.inj ((show Tryd.prog.funcNamed "codewright/codewrightlaw02.RationalParses" = some 6 by kernel_rfl).symm.trans hf) |>.symm
      obtain rfl : fn = Tryd.f6 := (Option.some.inj (Tryd.func6.symm.trans hfn)).symm
      exact ⟨by kernel_rfl, fun j u ht => rationalParses_stand j u ht⟩)
    (by kernel_rfl)
#print axioms rationalParsesCard_proved
end Go.Proofs.YtfggecdgnidhfaaDoor

