/- The natural numbers as a semiring: the methods' contracts; how much a list of lists of numbers holds; that the package is alive. -/
import Derived.Test.YtfggecdgnidhfaaDoorTwo
import Derived.Test.YtfggecdgnidhfaaDoorCosts
namespace Go.Proofs.YtfggecdgnidhfaaDoor
open Go.RowKit

/-- What has been made since a world. -/
def From (w w' : World) : Prop := Below w.heap.size w w'
theorem From.refl (w : World) : From w w := Below.refl _ _
theorem From.step {a b c : World} (h : From a b) (hb : Below b.heap.size b c) : From a c := below_step hb h
theorem From.drew {a b : World} (h : From a b) : From a b.drew := Below.drew h
theorem From.out {a b : World} (h : From a b) : Below a.heap.size a b := h
theorem Rd.up {w w' : World} (hb : Below w.heap.size w w') {A : Option Addr} {n c : Nat} {l : List Nat} (h : Rd w A n c l) : Rd w' A n c l := h.below hb
theorem Rd.drew {w : World} {A : Option Addr} {n c : Nat} {l : List Nat} (h : Rd w A n c l) : Rd w.drew A n c l := ⟨h.len, h.cap, h.max, h.lims, h.cells⟩

section
variable {w : World} {A B : Option Addr} {n c m d : Nat} {l k : List Nat}
end

/-- A slice of slices of slices of limbs. -/
structure RdLL (w : World) (A : Option Addr) (n c : Nat) (lll : List (List (List Nat))) : Prop where
  len : lll.length = n
  cells : 0 < n → ∃ b off, A = some ⟨b, off, none⟩ ∧ b < w.heap.size ∧ ∀ j, j < n → ∃ Aj nj cj, w.cell? ⟨b, off + j, none⟩ = some (.slice Aj nj cj) ∧ RdL w Aj nj cj (lll.getD j [])

/-- How long a list of numbers is, with its numbers. -/
def size1 (ll : List (List Nat)) : Nat := ll.length + (ll.map List.length).sum
def sizeLL (lll : List (List (List Nat))) : Nat := (lll.map size1).sum
theorem sizeLL_take {lll : List (List (List Nat))} {i : Nat} (h : i < lll.length) : sizeLL (lll.take (i + 1)) = sizeLL (lll.take i) + size1 (lll.getD i []) := by
  rw [List.take_succ_eq_append_getElem h, List.getD_eq_getElem?_getD, List.getElem?_eq_getElem h]
  simp only [sizeLL, List.map_append, List.sum_append, List.map_cons, List.map_nil, List.sum_cons, List.sum_nil, Nat.add_zero]
  rfl
def sumLen (ll : List (List Nat)) : Nat := (ll.map List.length).sum
theorem sumLen_take {ll : List (List Nat)} {i : Nat} (h : i < ll.length) : sumLen (ll.take (i + 1)) = sumLen (ll.take i) + (ll.getD i []).length := by
  rw [List.take_succ_eq_append_getElem h, List.getD_eq_getElem?_getD, List.getElem?_eq_getElem h]
  simp only [sumLen, List.map_append, List.sum_append, List.map_cons, List.map_nil, List.sum_cons, List.sum_nil, Nat.add_zero]
  rfl

/-- The call says whether there is little; if it says yes, then there is. -/
def RetLittle (most : Nat) (lll : List (List (List Nat))) (w : World) (x : Ending) (w' : World) : Prop :=
  ∃ q : Bool, x = .returned (.bool q) ∧ w = w' ∧ (q = true → sizeLL lll ≤ most)

end Go.Proofs.YtfggecdgnidhfaaDoor
