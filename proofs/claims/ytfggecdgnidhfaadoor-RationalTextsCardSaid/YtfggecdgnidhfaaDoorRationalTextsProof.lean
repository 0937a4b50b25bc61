/- The statement RationalTexts of the given rows, over its walk: the call returns true and leaves each argument as it was. -/
import Derived.Test.YtfggecdgnidhfaaDoorLawQTexts
import Derived.Test.YtfggecdgnidhfaaDoorOpenQ
import Derived.Test.YtfggecdgnidhfaaDoorOpen
import Derived.Test.YtfggecdgnidhfaaDoorCards
import Derived.Test.YtfggecdgnidhfaaDoorTie
import Derived.Test.YtfggecdgnidhfaaDoorWrapS
import Derived.Lay
import Derived.LaidOnce
import Derived.SevenTiedAt
namespace Go.Proofs.YtfggecdgnidhfaaDoor.rationalTexts
open Go.ChangeShapes Go.WideShapes Go.ChangeAt Go.RowKit

set_option maxRecDepth 100000 in
set_option maxHeartbeats 4000000 in
theorem lifted (os : Os) (started : os.Started) (H : Type) (enc : TypeId × Value → H) :
    ReturnsInHanded {} Tryd.checked os 5 .any (fun w args => (Rows.rationalTextsSpec.pre enc Tryd.prog Tryd.f5 [] false w args ∧ laidMetH Tryd.prog Rows.rationalTextsRow.laid w) ∧ sizedMet enc Tryd.prog Tryd.f5 (OpenSpec.ofChange Rows.rationalTextsSpec) false w args)
      (Rows.rationalTextsSpec.post enc Tryd.prog Tryd.f5 false true false false) := by
  refine wrap_and_shaped (C := Tryd.checked) (X := fun w _ => laidMetH Tryd.prog Rows.rationalTextsRow.laid w) (fun _ _ _ hh h => h.of_heap hh) own started (by kernel_rfl) Tryd.func5
    (ChangeSpec.witness_shaped (enc := enc) (C := Tryd.checked) (os := os) (X := fun w _ => laidMetH Tryd.prog Rows.rationalTextsRow.laid w) false (World.laidAll Tryd.prog os Rows.rationalTextsRow.laid) #[.agg #[.bool false, .slice none 0 0, .slice none 0 0]] 8 (World.laidAll_os _ _ _)
      (World.shaped_of_ZipB (by kernel_rfl) (by kernel_rfl)) (by kernel_rfl) (by kernel_rfl) (by kernel_rfl)
      (by rw [MakeChecks.laidMetH_plain _ _ _ (by kernel_rfl)]; exact laidMet_laidAll _ (by kernel_rfl) (by kernel_rfl))) ?_
  intro W base args ds gs before hval0 hW hcnd hsz0 hL hsh9
  have hval : ∀ (j : Nat) t v, Tryd.f5.params[j]? = some t → args[j]? = some v → Value.okWide Tryd.prog W .any base t v := hval0
  have hW' := hW
  obtain ⟨p, q, hA0, hV, rfl, hfz, hnd⟩ := hW
  have hA : DataW.TrodAll enc Tryd.prog W 0 (fun _ => true) true Tryd.f5.params.toList args.toList ds p := hA0
  rw [Tryd.params5] at hA hval
  have hsz : (DataW.weightsEach Tryd.prog (Tryd.f5.params.toList ++ Rows.rationalTextsSpec.plain.varTypes Tryd.prog) (ds ++ gs)).all (· ≤ reachBytes) = true := hsz0
  rw [Tryd.params5] at hsz
  obtain ⟨v0, vs0, d0, ds0, p0, q0, hargs, rfl, rfl, h0, r0⟩ := trodAll_cons hA
  obtain ⟨rfl, rfl, rfl⟩ := trodAll_nil r0
  obtain rfl : args = #[v0] := by cases args; simp_all
  obtain ⟨rfl, rfl⟩ := trodVars_none hV
  have lt0 : ∀ x ∈ p0, x.block < W.heap.size := by obtain ⟨m, hm⟩ := h0; exact DataW.trod_lt m _ _ _ hm
  have k0 := h0
  have z0 : Sized 33 d0 := sized_arg hsz (j := 0) rfl rfl
  obtain ⟨s0, A0, n0, c0, ln0, B0, m0, e0, ld0, rfl, w0, q90, x0, y0⟩ := open_rat_sized (hval 0 33 v0 rfl rfl) h0 z0
  refine (law_RationalTexts W (max_cell hsh9) s0 A0 n0 c0 ln0 B0 m0 e0 ld0 w0 q90 x0 y0).mono fun e W' ⟨he, bel⟩ => ?_
  subst he
  exact ⟨_, rfl, _, _, _, [], _, [], hW', trodAll_mk1 (shut_bool Tryd.underlying4 _), (trodAll_cons_mk (Below.trod laidOut (by kernel_rfl) (of_decide_eq_true (by kernel_rfl)) k0 bel lt0) trodAll_mk0), rfl, bel.frame _, fun h => by cases h⟩

set_option maxHeartbeats 4000000 in
theorem facts : joinedFacts Tryd.prog 5 Tryd.f5 Rows.rationalTextsSpec Rows.rationalTextsRow = true := by
  unfold joinedFacts
  repeat' (with_reducible refine (Bool.and_eq_true_iff).2 ⟨?_, ?_⟩)
  all_goals first
    | (rw [liftsFinal_eq]; as_aux_lemma => kernel_rfl)
    | (rw [make_eq]; as_aux_lemma => kernel_rfl)
    | (rw [mayEnter_eq])
    | (as_aux_lemma => kernel_rfl)

theorem over : Rows.rationalTextsRow.holds Tryd.pinned (OpenSpec.ofChange Rows.rationalTextsSpec) :=
  OpenClaim.holds_of_wide 5 Tryd.f5 rfl rfl rfl rfl rfl rfl rfl ⟨rfl, rfl, rfl, rfl, rfl⟩ rfl rfl rfl rfl rfl (by as_aux_lemma => kernel_rfl) Tryd.func5 facts
    (of_decide_eq_true (by as_aux_lemma => kernel_rfl)) (by unfold Func.isWrapper; rw [if_neg (of_decide_eq_false (by as_aux_lemma => kernel_rfl))]; exact ⟨rfl, rfl⟩)
    (fun os started H enc _ => lifted os started H enc)
end Go.Proofs.YtfggecdgnidhfaaDoor.rationalTexts

namespace Go.Proofs.YtfggecdgnidhfaaDoor
theorem rationalTexts_stand (j : Nat) (u : TypeId) (h : Tryd.f5.params[j]? = some u) : Tryd.prog.wantsStandIn u = false := by
  have hm : u ∈ Tryd.f5.params.toList := by simpa using Array.mem_of_getElem? h
  have hall : (Tryd.f5.params.toList.all fun u => !Tryd.prog.wantsStandIn u) = true := by kernel_rfl
  simpa using List.all_eq_true.1 hall u hm
/-- The statement: the card over the row. -/
theorem rationalTextsCard_proved : Rows.RationalTextsCardSaid :=
  Claim7.holds_tied_plain_at .later [] [.data, .pinned] true Rows.rationalTextsCard.stood.harness false rationalTexts.over (fun _ h => by cases h) (by kernel_rfl) (fun _ h => by cases h) rationalTexts_row_tie rfl ⟨rfl, rfl⟩ (by kernel_rfl) rfl
    (fun f fn hf hfn => by
      obtain rfl : f = 5 := Option.some.inj ((show Tryd.prog.funcNamed "codewright/codewrightlaw02.RationalTexts" = some 5 by kernel_rfl).symm.trans hf) |>.symm
      obtain rfl : fn = Tryd.f5 := (Option.some.inj (Tryd.func5.symm.trans hfn)).symm
      exact ⟨by kernel_rfl, fun j u ht => rationalTexts_stand j u ht⟩)
    (by kernel_rfl)
#print axioms rationalTextsCard_proved
end Go.Proofs.YtfggecdgnidhfaaDoor

