/-
  No cell of these rows narrows 'for every input' (looked for: loops, veiled, ifaces, maps, wideKeys, modest, calm, conditions, laid).
  DERIVED. THE GIVEN ROWS OF THIS SEAT. 3 by the template 'for every input the law returns true; each argument reads behind the call as it read before'; 0 by the template 'total and deterministic' (their statements: YtonimfogmplgdaaTotals.lean).
  GIVEN WITH THE SEED: the statements are not yours to turn. If you find one false, say at which input.
  Laid BY PROGRAM, IN A SANDBOX (cutbox-rows.mjs): the forced cells as the released guide's own fill.sh prints them over the translation f1652cd9f0ca153b… (all of the seat's roots in one cut). By AI agents, Wed Nov 11 2026. No macro, syntax, notation, axiom, sorry.
-/
import Derived.Test.YtonimfogmplgdaaChecked
import GoSem.Claim
import GoSem.ClaimJoined
import GoSem.ClaimMapViews
import Derived.JoinedTies
import Derived.KernelRfl
namespace Go.Proofs.Ytonimfogmplgdaa
/- THE CELL 'sum', in the pinned program and in every row, IS THE sha256 OF THE DUMP (.gsa) THAT YtonimfogmplgdaaProg.lean LOADS. Nothing in Lean hashes anything: it is a label: what it is worth is what the hold of that sum in a sandbox is worth. -/
noncomputable def Try.pinned : Pinned := { name := "ytonimfogmplgdaa", sum := "f1652cd9f0ca153b9f17c1a8268f2b36bcc0beda8a518821da120e93af8092f3", checked := Try.checked }
namespace Rows
def none {H : Type} : Left H := { results := [], args := [] }

/-- 'codewrightlaw46.SemiringLeasts': WHATEVER THE INPUT: true; the input reads as it did. -/
def semiringLeastsSpec : ChangeSpec := { name := "semiringLeasts", fn := fun _ => fun
  | [d1, d2, d3] => { results := [.lit (.bool true)], args := [d1, d2, d3] }
  | _ => none }
def semiringLeastsRow : OpenClaim := { program := "ytonimfogmplgdaa", sum := "f1652cd9f0ca153b9f17c1a8268f2b36bcc0beda8a518821da120e93af8092f3", func := "codewright/codewrightlaw46.SemiringLeasts", spec := "semiringLeasts", apart := false }
def SemiringLeastsSaid : Prop := semiringLeastsRow.holds Try.pinned (OpenSpec.ofChange semiringLeastsSpec)

/-- ITS FALSE NEIGHBOUR: 'it returns false'. Refute it at one input. -/
def semiringLeastsWrong : ChangeSpec := { name := "semiringLeasts", fn := fun _ => fun
  | [d1, d2, d3] => { results := [.lit (.bool false)], args := [d1, d2, d3] }
  | _ => none }
def SemiringLeastsWrongFalsely : Prop := semiringLeastsRow.holds Try.pinned (OpenSpec.ofChange semiringLeastsWrong)

/-- 'codewrightlaw46.SemiringEnumerators': WHATEVER THE INPUT: true; the input reads as it did. -/
def semiringEnumeratorsSpec : ChangeSpec := { name := "semiringEnumerators", fn := fun _ => fun
  | [d1, d2, d3] => { results := [.lit (.bool true)], args := [d1, d2, d3] }
  | _ => none }
def semiringEnumeratorsRow : OpenClaim := { program := "ytonimfogmplgdaa", sum := "f1652cd9f0ca153b9f17c1a8268f2b36bcc0beda8a518821da120e93af8092f3", func := "codewright/codewrightlaw46.SemiringEnumerators", spec := "semiringEnumerators", unfollowed := true, recurses := true, apart := false }
def SemiringEnumeratorsSaid : Prop := semiringEnumeratorsRow.holds Try.pinned (OpenSpec.ofChange semiringEnumeratorsSpec)

/-- ITS FALSE NEIGHBOUR: 'it returns false'. Refute it at one input. -/
def semiringEnumeratorsWrong : ChangeSpec := { name := "semiringEnumerators", fn := fun _ => fun
  | [d1, d2, d3] => { results := [.lit (.bool false)], args := [d1, d2, d3] }
  | _ => none }
def SemiringEnumeratorsWrongFalsely : Prop := semiringEnumeratorsRow.holds Try.pinned (OpenSpec.ofChange semiringEnumeratorsWrong)

/-- 'codewrightlaw46.SemiringSums': WHATEVER THE INPUT: true; the input reads as it did. -/
def semiringSumsSpec : ChangeSpec := { name := "semiringSums", fn := fun _ => fun
  | [d] => { results := [.lit (.bool true)], args := [d] }
  | _ => none }
def semiringSumsRow : OpenClaim := { program := "ytonimfogmplgdaa", sum := "f1652cd9f0ca153b9f17c1a8268f2b36bcc0beda8a518821da120e93af8092f3", func := "codewright/codewrightlaw46.SemiringSums", spec := "semiringSums", unfollowed := true, recurses := true, apart := false }
def SemiringSumsSaid : Prop := semiringSumsRow.holds Try.pinned (OpenSpec.ofChange semiringSumsSpec)

/-- ITS FALSE NEIGHBOUR: 'it returns false'. Refute it at one input. -/
def semiringSumsWrong : ChangeSpec := { name := "semiringSums", fn := fun _ => fun
  | [d] => { results := [.lit (.bool false)], args := [d] }
  | _ => none }
def SemiringSumsWrongFalsely : Prop := semiringSumsRow.holds Try.pinned (OpenSpec.ofChange semiringSumsWrong)

/- THE SECOND FORM. 'bulk': how many values and letters a reading holds, each counted each time it is reached (what is shared counts as often as it is met; a slice's spare places count too). A statement '..UptoSaid' is the law's where the arguments, and the package variables that the reading takes, are together of bulk at most 1048576: NARROWER than '..Said'. Prove '..Said' where nothing that the law and all that it calls make is longer than what came in: it says more and counts as full. Else prove '..UptoSaid'. A law counts once. -/
mutual
def uptoBulk {H : Type} : DataW H → Nat
  | .lit (.string bytes) => bytes.length + 1
  | .lit _ => 1
  | .nil => 1
  | .ptr d => uptoBulk d + 1
  | .slice elems spare => uptoBulkAll elems + uptoBulkAll spare + 1
  | .agg parts => uptoBulkAll parts + 1
  | .iface _ d => uptoBulk d + 1
  | .map entries => uptoBulkEntries entries + 1
  | .held _ => 1
def uptoBulkAll {H : Type} : List (DataW H) → Nat
  | [] => 0
  | d :: r => uptoBulk d + uptoBulkAll r
def uptoBulkEntries {H : Type} : List (Lit × DataW H) → Nat
  | [] => 0
  | x :: r => uptoBulkEntry x + uptoBulkEntries r
def uptoBulkEntry {H : Type} : Lit × DataW H → Nat
  | (.string bytes, d) => bytes.length + uptoBulk d + 1
  | (_, d) => uptoBulk d + 1
 end
def uptoSmall : (H : Type) → List (DataW H) → Bool := fun _ ds => decide (uptoBulkAll ds ≤ 1048576)
def OpenSpec.upto (s : _root_.Go.ChangeSpec) : _root_.Go.OpenSpec := { _root_.Go.OpenSpec.ofChange s with cond := some uptoSmall }

/-- 'codewrightlaw46.SemiringLeasts', WHERE WHAT IT READS IS OF BULK AT MOST 1048576: true; the input reads as it did. -/
def semiringLeastsUptoRow : OpenClaim := { program := "ytonimfogmplgdaa", sum := "f1652cd9f0ca153b9f17c1a8268f2b36bcc0beda8a518821da120e93af8092f3", func := "codewright/codewrightlaw46.SemiringLeasts", spec := "semiringLeasts", apart := false, narrowed := true }
def SemiringLeastsUptoSaid : Prop := semiringLeastsUptoRow.holds Try.pinned (OpenSpec.upto semiringLeastsSpec)

/-- 'codewrightlaw46.SemiringEnumerators', WHERE WHAT IT READS IS OF BULK AT MOST 1048576: true; the input reads as it did. -/
def semiringEnumeratorsUptoRow : OpenClaim := { program := "ytonimfogmplgdaa", sum := "f1652cd9f0ca153b9f17c1a8268f2b36bcc0beda8a518821da120e93af8092f3", func := "codewright/codewrightlaw46.SemiringEnumerators", spec := "semiringEnumerators", unfollowed := true, recurses := true, apart := false, narrowed := true }
def SemiringEnumeratorsUptoSaid : Prop := semiringEnumeratorsUptoRow.holds Try.pinned (OpenSpec.upto semiringEnumeratorsSpec)

/-- 'codewrightlaw46.SemiringSums', WHERE WHAT IT READS IS OF BULK AT MOST 1048576: true; the input reads as it did. -/
def semiringSumsUptoRow : OpenClaim := { program := "ytonimfogmplgdaa", sum := "f1652cd9f0ca153b9f17c1a8268f2b36bcc0beda8a518821da120e93af8092f3", func := "codewright/codewrightlaw46.SemiringSums", spec := "semiringSums", unfollowed := true, recurses := true, apart := false, narrowed := true }
def SemiringSumsUptoSaid : Prop := semiringSumsUptoRow.holds Try.pinned (OpenSpec.upto semiringSumsSpec)

end Rows
end Go.Proofs.Ytonimfogmplgdaa
