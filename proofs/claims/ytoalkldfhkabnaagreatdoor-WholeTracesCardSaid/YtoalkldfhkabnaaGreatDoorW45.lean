/- Part of WholeTraces. -/
import Derived.Test.YtoalkldfhkabnaaGreatDoorChecked
import Derived.Test.YtoalkldfhkabnaaGreatDoorCards
import Derived.Test.YtoalkldfhkabnaaGreatDoorTie
import Derived.Lay
import Derived.LaidOnce
import Derived.SevenTiedAt
import Derived.Test.YtoalkldfhkabnaaGreatDoorW00
set_option linter.all false
set_option maxRecDepth 10000
set_option maxHeartbeats 16000000
namespace Go.Proofs.YtoalkldfhkabnaaGreatDoor
section
set_option maxRecDepth 100000
theorem pR : Rows.wholeTracesRow.wfByText (OpenSpec.ofChange Rows.wholeTracesSpec) = true := by kernel_rfl
theorem eW : Tryz.pinned.checked.prog.mainIs = some (Rows.wholeTracesCard.stood.harness.1, Rows.wholeTracesCard.stood.harness.2.toList) := by kernel_rfl
theorem pK : false = Rows.wholeTracesRow.goesBy Tryz.pinned.checked.prog := by kernel_rfl
theorem pZ : Tryz.pinned.checked.prog.funcNamed "codewright/codewrighttop.WholeTraces" = some 3 := by kernel_rfl
theorem aO : true = Tryz.pinned.checked.prog.looks [] := by kernel_rfl
end
end Go.Proofs.YtoalkldfhkabnaaGreatDoor
