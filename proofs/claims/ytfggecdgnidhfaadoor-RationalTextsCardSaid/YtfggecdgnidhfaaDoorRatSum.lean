/- The walk of rational.Add. -/
import Derived.Test.YtfggecdgnidhfaaDoorRatLong
namespace Go.Proofs.YtfggecdgnidhfaaDoor
open Go.RowKit

theorem BoxQ.store3 {w : World} {g : Nat} {s : Bool} {A B : Option Addr} {n c m d : Nat} (h : BoxQ w g s A n c B m d) (s' : Bool) (A' : Option Addr) (n' c' : Nat) (B' : Option Addr) (m' d' : Nat) :
    BoxQ (((w.setCell ⟨g, 0, none⟩ (.bool s')).setCell ⟨g, 1, none⟩ (.slice A' n' c')).setCell ⟨g, 2, none⟩ (.slice B' m' d')) g s' A' n' c' B' m' d' := by
  refine ⟨?_, by simpa [World.setCell] using h.2⟩
  simp [World.setCell, Array.getElem?_modify, h.1]
theorem BoxQ.drew {w : World} {g : Nat} {s : Bool} {A B : Option Addr} {n c m d : Nat} (h : BoxQ w g s A n c B m d) : BoxQ w.drew g s A n c B m d := h
theorem Below.up3 {W w : World} {g : Nat} {a b e : Value} (hg : W.heap.size ≤ g) (h : Below W.heap.size W w) : Below W.heap.size W (((w.setCell ⟨g, 0, none⟩ a).setCell ⟨g, 1, none⟩ b).setCell ⟨g, 2, none⟩ e) := below3 h hg a b e

/-- All numbers have at most K limbs. -/
def ShortT (K : Nat) (ts : List RatT) : Prop := ∀ t ∈ ts, t.2.1.length ≤ K ∧ t.2.2.length ≤ K
def sumT (ts : List RatT) : Rat := sumQ (ts.map ratT)
def prodT (ts : List RatT) : Rat := prodQ (ts.map ratT)
theorem getD_map_ratT {ts : List RatT} {j : Nat} (h : j < ts.length) : (ts.map ratT).getD j 0 = ratT (ts.getD j (false, [], [])) := by
  simp [List.getD_eq_getElem?_getD, h]
theorem sumT_take {ts : List RatT} {j : Nat} (h : j < ts.length) : sumT (ts.take (j + 1)) = sumT (ts.take j) + ratT (ts.getD j (false, [], [])) := by
  unfold sumT
  rw [List.map_take, List.map_take, sumQ_take (by simpa using h), getD_map_ratT h]
theorem prodT_take {ts : List RatT} {j : Nat} (h : j < ts.length) : prodT (ts.take (j + 1)) = prodT (ts.take j) * ratT (ts.getD j (false, [], [])) := by
  unfold prodT
  rw [List.map_take, List.map_take, prodQ_take (by simpa using h), getD_map_ratT h]

end Go.Proofs.YtfggecdgnidhfaaDoor
