/- Two closed facts on the program that every row asks for: each takes the kernel a minute, so they are proved once. -/
import Derived.Test.YtfggecdgnidhfaaDoorChecked
import Derived.ProofKit
namespace Go.Proofs.YtfggecdgnidhfaaDoor
theorem liftsFinal_eq : Tryd.prog.liftsFinal = false := by kernel_rfl
theorem make_eq : Tryd.prog.make = some .cut := by kernel_rfl
theorem mayEnter_eq : Tryd.prog.mayEnter = true := by kernel_rfl
theorem own : ownKnob Tryd.prog.godebug = none := by kernel_rfl
theorem laidOut : laidOutB Tryd.prog = true := by kernel_rfl
end Go.Proofs.YtfggecdgnidhfaaDoor
