/- The walks of Floor and Whole, on both sides. -/
import Derived.Test.YtfggecdgnidhfaaDoorRatSub
namespace Go.Proofs.YtfggecdgnidhfaaDoor
open Go.RowKit

theorem qone_ret (w : World) : Calls Tryd.prog 31 #[] w fun e w' => ∃ A, e = .returned (.slice A 1 1) ∧ Rd w' A 1 1 (limbs 1) ∧ Below w.heap.size w w' :=
  (qone_any w).mono fun _ _ ⟨h1, h2⟩ => ⟨_, h1, h2 ▸ rd_one w w.heap.size rfl, h2 ▸ below_alloc w _⟩
def wholeQ (q : Rat) : Bool := !(qneg q) && decide (q.den = 1)
/-- Whole's two results. -/
def RetW (q : Rat) (K : Nat) (w : World) (x : Ending) (w' : World) : Prop :=
  ∃ A n c, x = .returned (.tuple #[.slice A n c, .bool (wholeQ q)]) ∧ Rd w' A n c (if wholeQ q then limbs q.num.natAbs else []) ∧ n ≤ K ∧ Below w.heap.size w w'
theorem retW_no {q : Rat} {K : Nat} {w w' : World} (h : wholeQ q = false) (hb : Below w.heap.size w w') : RetW q K w (.returned (.tuple #[.slice none 0 0, .bool false])) w' :=
  ⟨none, 0, 0, by rw [h], by rw [h]; exact Rd.nil w', Nat.zero_le _, hb⟩
theorem retW_yes {q : Rat} {K : Nat} {w w' : World} {A B : Option Addr} {n c m d : Nat} (h : wholeQ q = true) (hc : CanQ w' A n c B m d q K) (hb : Below w.heap.size w w') : RetW q K w (.returned (.tuple #[.slice A n c, .bool true])) w' :=
  ⟨A, n, c, by rw [h], by rw [h]; exact hc.num, hc.hn, hb⟩
theorem wholeQ_neg {q : Rat} (h : qneg q = true) : wholeQ q = false := by simp [wholeQ, h]
theorem wholeQ_den {q : Rat} (h : q.den ≠ 1) : wholeQ q = false := by simp [wholeQ, h]
theorem wholeQ_yes {q : Rat} (h : qneg q = false) (h' : q.den = 1) : wholeQ q = true := by simp [wholeQ, h, h']

end Go.Proofs.YtfggecdgnidhfaaDoor
