/-
  No cell of these rows narrows 'for every input' (looked for: loops, veiled, ifaces, maps, wideKeys, modest, calm, conditions, laid).
  DERIVED. THE GIVEN ROWS OF THIS SEAT. 4 by the template 'for every input the law returns true; each argument reads behind the call as it read before'; 0 by the template 'total and deterministic' (their statements: YtjadgomakoaibaaTotals.lean).
  GIVEN WITH THE SEED: the statements are not yours to turn. If you find one false, say at which input.
  Laid BY PROGRAM, IN A SANDBOX (cutbox-rows.mjs): the forced cells as the released guide's own fill.sh prints them over the translation dd91faee85a170dd… (all of the seat's roots in one cut). By AI agents, Wed Nov 11 2026. No macro, syntax, notation, axiom, sorry.
-/
import Derived.Test.YtjadgomakoaibaaChecked
import GoSem.Claim
import GoSem.ClaimJoined
import GoSem.ClaimMapViews
import Derived.JoinedTies
import Derived.KernelRfl
namespace Go.Proofs.Ytjadgomakoaibaa
/- THE CELL 'sum', in the pinned program and in every row, IS THE sha256 OF THE DUMP (.gsa) THAT YtjadgomakoaibaaProg.lean LOADS. Nothing in Lean hashes anything: it is a label: what it is worth is what the hold of that sum in a sandbox is worth. -/
noncomputable def Try.pinned : Pinned := { name := "ytjadgomakoaibaa", sum := "dd91faee85a170dda28966de3d0538a0d545bce829c602cb060b492965757d86", checked := Try.checked }
namespace Rows
def none {H : Type} : Left H := { results := [], args := [] }

/-- 'codewrightlaw46.SemiringCountsPaths': WHATEVER THE INPUT: true; the input reads as it did. -/
def semiringCountsPathsSpec : ChangeSpec := { name := "semiringCountsPaths", fn := fun _ => fun
  | [d] => { results := [.lit (.bool true)], args := [d] }
  | _ => none }
def semiringCountsPathsRow : OpenClaim := { program := "ytjadgomakoaibaa", sum := "dd91faee85a170dda28966de3d0538a0d545bce829c602cb060b492965757d86", func := "codewright/codewrightlaw46.SemiringCountsPaths", spec := "semiringCountsPaths", unfollowed := true, recurses := true, apart := false }
def SemiringCountsPathsSaid : Prop := semiringCountsPathsRow.holds Try.pinned (OpenSpec.ofChange semiringCountsPathsSpec)

/-- ITS FALSE NEIGHBOUR: 'it returns false'. Refute it at one input. -/
def semiringCountsPathsWrong : ChangeSpec := { name := "semiringCountsPaths", fn := fun _ => fun
  | [d] => { results := [.lit (.bool false)], args := [d] }
  | _ => none }
def SemiringCountsPathsWrongFalsely : Prop := semiringCountsPathsRow.holds Try.pinned (OpenSpec.ofChange semiringCountsPathsWrong)

/-- 'codewrightlaw46.SemiringLeastPaths': WHATEVER THE INPUT: true; the input reads as it did. -/
def semiringLeastPathsSpec : ChangeSpec := { name := "semiringLeastPaths", fn := fun _ => fun
  | [d] => { results := [.lit (.bool true)], args := [d] }
  | _ => none }
def semiringLeastPathsRow : OpenClaim := { program := "ytjadgomakoaibaa", sum := "dd91faee85a170dda28966de3d0538a0d545bce829c602cb060b492965757d86", func := "codewright/codewrightlaw46.SemiringLeastPaths", spec := "semiringLeastPaths", unfollowed := true, recurses := true, apart := false }
def SemiringLeastPathsSaid : Prop := semiringLeastPathsRow.holds Try.pinned (OpenSpec.ofChange semiringLeastPathsSpec)

/-- ITS FALSE NEIGHBOUR: 'it returns false'. Refute it at one input. -/
def semiringLeastPathsWrong : ChangeSpec := { name := "semiringLeastPaths", fn := fun _ => fun
  | [d] => { results := [.lit (.bool false)], args := [d] }
  | _ => none }
def SemiringLeastPathsWrongFalsely : Prop := semiringLeastPathsRow.holds Try.pinned (OpenSpec.ofChange semiringLeastPathsWrong)

/-- 'codewrightlaw46.SemiringShortest': WHATEVER THE INPUT: true; the input reads as it did. -/
def semiringShortestSpec : ChangeSpec := { name := "semiringShortest", fn := fun _ => fun
  | [d] => { results := [.lit (.bool true)], args := [d] }
  | _ => none }
def semiringShortestRow : OpenClaim := { program := "ytjadgomakoaibaa", sum := "dd91faee85a170dda28966de3d0538a0d545bce829c602cb060b492965757d86", func := "codewright/codewrightlaw46.SemiringShortest", spec := "semiringShortest", unfollowed := true, recurses := true, apart := false }
def SemiringShortestSaid : Prop := semiringShortestRow.holds Try.pinned (OpenSpec.ofChange semiringShortestSpec)

/-- ITS FALSE NEIGHBOUR: 'it returns false'. Refute it at one input. -/
def semiringShortestWrong : ChangeSpec := { name := "semiringShortest", fn := fun _ => fun
  | [d] => { results := [.lit (.bool false)], args := [d] }
  | _ => none }
def SemiringShortestWrongFalsely : Prop := semiringShortestRow.holds Try.pinned (OpenSpec.ofChange semiringShortestWrong)

/-- 'codewrightlaw46.SemiringMeets': WHATEVER THE INPUT: true; the input reads as it did. -/
def semiringMeetsSpec : ChangeSpec := { name := "semiringMeets", fn := fun _ => fun
  | [d] => { results := [.lit (.bool true)], args := [d] }
  | _ => none }
def semiringMeetsRow : OpenClaim := { program := "ytjadgomakoaibaa", sum := "dd91faee85a170dda28966de3d0538a0d545bce829c602cb060b492965757d86", func := "codewright/codewrightlaw46.SemiringMeets", spec := "semiringMeets", unfollowed := true, recurses := true, apart := false }
def SemiringMeetsSaid : Prop := semiringMeetsRow.holds Try.pinned (OpenSpec.ofChange semiringMeetsSpec)

/-- ITS FALSE NEIGHBOUR: 'it returns false'. Refute it at one input. -/
def semiringMeetsWrong : ChangeSpec := { name := "semiringMeets", fn := fun _ => fun
  | [d] => { results := [.lit (.bool false)], args := [d] }
  | _ => none }
def SemiringMeetsWrongFalsely : Prop := semiringMeetsRow.holds Try.pinned (OpenSpec.ofChange semiringMeetsWrong)

/- THE SECOND FORM. 'bulk': how many values and letters a reading holds, each counted each time it is reached (what is shared counts as often as it is met; a slice's spare places count too). A statement '..UptoSaid' is the law's where the arguments, and the package variables that the reading takes, are together of bulk at most 1048576: NARROWER than '..Said'. Prove '..Said' where nothing that the law and all that it calls make is longer than what came in: it says more and counts as full. Else prove '..UptoSaid'. A law counts once. -/
mutual
def uptoBulk {H : Type} : DataW H → Nat
  | .lit (.string bytes) => bytes.length + 1
  | .lit _ => 1
  | .nil => 1
  | .ptr d => uptoBulk d + 1
  | .slice elems spare => uptoBulkAll elems + uptoBulkAll spare + 1
  | .agg parts => uptoBulkAll parts + 1
  | .iface _ d => uptoBulk d + 1
  | .map entries => uptoBulkEntries entries + 1
  | .held _ => 1
def uptoBulkAll {H : Type} : List (DataW H) → Nat
  | [] => 0
  | d :: r => uptoBulk d + uptoBulkAll r
def uptoBulkEntries {H : Type} : List (Lit × DataW H) → Nat
  | [] => 0
  | x :: r => uptoBulkEntry x + uptoBulkEntries r
def uptoBulkEntry {H : Type} : Lit × DataW H → Nat
  | (.string bytes, d) => bytes.length + uptoBulk d + 1
  | (_, d) => uptoBulk d + 1
 end
def uptoSmall : (H : Type) → List (DataW H) → Bool := fun _ ds => decide (uptoBulkAll ds ≤ 1048576)
def OpenSpec.upto (s : _root_.Go.ChangeSpec) : _root_.Go.OpenSpec := { _root_.Go.OpenSpec.ofChange s with cond := some uptoSmall }

/-- 'codewrightlaw46.SemiringCountsPaths', WHERE WHAT IT READS IS OF BULK AT MOST 1048576: true; the input reads as it did. -/
def semiringCountsPathsUptoRow : OpenClaim := { program := "ytjadgomakoaibaa", sum := "dd91faee85a170dda28966de3d0538a0d545bce829c602cb060b492965757d86", func := "codewright/codewrightlaw46.SemiringCountsPaths", spec := "semiringCountsPaths", unfollowed := true, recurses := true, apart := false, narrowed := true }
def SemiringCountsPathsUptoSaid : Prop := semiringCountsPathsUptoRow.holds Try.pinned (OpenSpec.upto semiringCountsPathsSpec)

/-- 'codewrightlaw46.SemiringLeastPaths', WHERE WHAT IT READS IS OF BULK AT MOST 1048576: true; the input reads as it did. -/
def semiringLeastPathsUptoRow : OpenClaim := { program := "ytjadgomakoaibaa", sum := "dd91faee85a170dda28966de3d0538a0d545bce829c602cb060b492965757d86", func := "codewright/codewrightlaw46.SemiringLeastPaths", spec := "semiringLeastPaths", unfollowed := true, recurses := true, apart := false, narrowed := true }
def SemiringLeastPathsUptoSaid : Prop := semiringLeastPathsUptoRow.holds Try.pinned (OpenSpec.upto semiringLeastPathsSpec)

/-- 'codewrightlaw46.SemiringShortest', WHERE WHAT IT READS IS OF BULK AT MOST 1048576: true; the input reads as it did. -/
def semiringShortestUptoRow : OpenClaim := { program := "ytjadgomakoaibaa", sum := "dd91faee85a170dda28966de3d0538a0d545bce829c602cb060b492965757d86", func := "codewright/codewrightlaw46.SemiringShortest", spec := "semiringShortest", unfollowed := true, recurses := true, apart := false, narrowed := true }
def SemiringShortestUptoSaid : Prop := semiringShortestUptoRow.holds Try.pinned (OpenSpec.upto semiringShortestSpec)

/-- 'codewrightlaw46.SemiringMeets', WHERE WHAT IT READS IS OF BULK AT MOST 1048576: true; the input reads as it did. -/
def semiringMeetsUptoRow : OpenClaim := { program := "ytjadgomakoaibaa", sum := "dd91faee85a170dda28966de3d0538a0d545bce829c602cb060b492965757d86", func := "codewright/codewrightlaw46.SemiringMeets", spec := "semiringMeets", unfollowed := true, recurses := true, apart := false, narrowed := true }
def SemiringMeetsUptoSaid : Prop := semiringMeetsUptoRow.holds Try.pinned (OpenSpec.upto semiringMeetsSpec)

end Rows
end Go.Proofs.Ytjadgomakoaibaa
