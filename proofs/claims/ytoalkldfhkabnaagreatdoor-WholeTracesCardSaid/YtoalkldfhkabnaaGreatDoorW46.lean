/- WholeTraces: the dual of the subfield subcode of a code is the trace code of its dual; for every input, the tables of the library being laid as the card ties them. -/
import Derived.Test.YtoalkldfhkabnaaGreatDoorW00
import Derived.Test.YtoalkldfhkabnaaGreatDoorW44
import Derived.Test.YtoalkldfhkabnaaGreatDoorW45
set_option linter.all false
set_option maxRecDepth 10000
set_option maxHeartbeats 16000000
namespace Go.Proofs.YtoalkldfhkabnaaGreatDoor
section
theorem Li (j : Nat) (u : TypeId) (h : Tryz.f3.params[j]? = some u) : Tryz.prog.wantsStandIn u = false := by
 have hm : u ∈ Tryz.f3.params.toList := by simpa using Array.mem_of_getElem? h
 have hall : (Tryz.f3.params.toList.all fun u => !Tryz.prog.wantsStandIn u) = true := by kernel_rfl
 simpa using List.all_eq_true.1 hall u hm
theorem wholeTracesCard_proved : Rows.WholeTracesCardSaid :=
 Claim7.holds_tied_plain_at .later [] [.data, .data, .data] true Rows.wholeTracesCard.stood.harness true wholeTraces.over (fun _ h => by cases h) pR (fun _ h => by cases h) wholeTraces_row_tie rfl ⟨rfl, rfl⟩ eW rfl
  (fun f fn hf hfn => by
   obtain rfl : f = 3 := Option.some.inj (hf.symm.trans pZ)
   obtain rfl : fn = Tryz.f3 := (Option.some.inj (Tryz.func3.symm.trans hfn)).symm
   exact ⟨aO, fun j u ht => Li j u ht⟩)
  pK
#print axioms wholeTracesCard_proved
end
end Go.Proofs.YtoalkldfhkabnaaGreatDoor
