/- Two closed facts on the program that every row asks for: each takes the kernel a minute, so they are proved once. -/
import Derived.Test.YtonimfogmplgdaaChecked
import Derived.ProofKit
namespace Go.Proofs.Ytonimfogmplgdaa
theorem liftsFinal_eq : Try.prog.liftsFinal = false := by kernel_rfl
theorem make_eq : Try.prog.make = some .cut := by kernel_rfl
theorem mayEnter_eq : Try.prog.mayEnter = true := by kernel_rfl
theorem own : ownKnob Try.prog.godebug = none := by kernel_rfl
theorem laidOut : laidOutB Try.prog = true := by kernel_rfl
end Go.Proofs.Ytonimfogmplgdaa
