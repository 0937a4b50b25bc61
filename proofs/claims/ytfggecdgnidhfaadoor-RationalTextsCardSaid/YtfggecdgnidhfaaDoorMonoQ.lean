/- What the values of a region are: numbers, rationals, lists of two, new variables. -/
import Derived.Test.YtfggecdgnidhfaaDoorMono
import Derived.Test.YtfggecdgnidhfaaDoorRatSum
namespace Go.Proofs.YtfggecdgnidhfaaDoor
open Go.RowKit

/-- A number N of at most K limbs. -/
def IsN (N K : Nat) (v : Value) (w : World) : Prop := ∃ A n c, v = .slice A n c ∧ Rd w A n c (limbs N) ∧ n ≤ K
theorem IsN.lasting {N K : Nat} : ∀ v w w', Below w.heap.size w w' → IsN N K v w → IsN N K v w' := fun _ _ _ hb ⟨A, n, c, h1, h2, h3⟩ => ⟨A, n, c, h1, h2.below hb, h3⟩
/-- A canonical rational. -/
def IsQ (q : Rat) (K : Nat) (v : Value) (w : World) : Prop := ∃ A n c B m d, v = .agg #[.bool (qneg q), .slice A n c, .slice B m d] ∧ CanQ w A n c B m d q K
theorem IsQ.lasting {q : Rat} {K : Nat} : ∀ v w w', Below w.heap.size w w' → IsQ q K v w → IsQ q K v w' := fun _ _ _ hb ⟨A, n, c, B, m, d, h1, h2⟩ => ⟨A, n, c, B, m, d, h1, h2.below hb⟩
/-- A rational in any form. -/
def IsR (q : Rat) (K : Nat) (v : Value) (w : World) : Prop := ∃ s A n c B m d, v = .agg #[.bool s, .slice A n c, .slice B m d] ∧ RawQ w s A n c B m d q K
theorem IsR.lasting {q : Rat} {K : Nat} : ∀ v w w', Below w.heap.size w w' → IsR q K v w → IsR q K v w' := fun _ _ _ hb ⟨s, A, n, c, B, m, d, h1, h2⟩ => ⟨s, A, n, c, B, m, d, h1, h2.below hb⟩
/-- A list of two numbers, just written out. -/
def IsNL (l k : List Nat) (v : Value) (w : World) : Prop := ∃ g, v = .slice (some ⟨g, 0, none⟩) 2 2 ∧ RdL w (some ⟨g, 0, none⟩) 2 2 [l, k]
theorem IsNL.lasting {l k : List Nat} : ∀ v w w', Below w.heap.size w w' → IsNL l k v w → IsNL l k v w' := fun _ _ _ hb ⟨g, h1, h2⟩ => ⟨g, h1, h2.below hb⟩
/-- A new variable of a rational, in a block from b on. -/
def IsBox (b : Nat) (v : Value) (w : World) : Prop := ∃ g, b ≤ g ∧ v = .pointer (some ⟨g, 0, none⟩) ∧ BoxQ w g false none 0 0 none 0 0
theorem IsBox.lasting {b : Nat} : ∀ v w w', Below w.heap.size w w' → IsBox b v w → IsBox b v w' := fun _ _ _ hb ⟨g, h0, h1, h2⟩ => ⟨g, h0, h1, h2.below hb⟩
theorem From.lasting {W : World} : ∀ w w', Below w.heap.size w w' → From W w → From W w' := fun _ _ hb h => From.step h hb
theorem int_val {k : IntKind} {a b : Int} (h : a = b) : Value.int k a = Value.int k b := by rw [h]
theorem bool_val {a b : Bool} (h : a = b) : Value.bool a = Value.bool b := by rw [h]
end Go.Proofs.YtfggecdgnidhfaaDoor
