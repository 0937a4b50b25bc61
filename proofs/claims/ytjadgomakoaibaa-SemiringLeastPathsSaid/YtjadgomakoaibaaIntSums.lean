/- Sums and products of a list of ints, over costs and over gains. -/
import Derived.Test.YtjadgomakoaibaaGains
import Derived.Test.YtjadgomakoaibaaShape
namespace Go.Proofs.Ytjadgomakoaibaa
open Go.RowKit

theorem foldl_take {α β : Type} (f : β → α → β) (z : β) (l : List α) (d : α) {j : Nat} (h : j < l.length) : (l.take (j + 1)).foldl f z = f ((l.take j).foldl f z) (l.getD j d) := by
  rw [List.take_succ_eq_append_getElem h, List.foldl_append, List.getD_eq_getElem?_getD, List.getElem?_eq_getElem h]
  rfl
def sumC (zs : List Int) : Int := zs.foldl (fun l x => min l (cCost x)) 4611686018427387904
def prodC (zs : List Int) : Int := zs.foldl cMul 0
def sumG (zs : List Int) : Int := zs.foldl (fun l x => max l (gCost x)) (-1)
def prodG (zs : List Int) : Int := zs.foldl gMul 0
theorem sumC_take {zs : List Int} {j : Nat} (h : j < zs.length) : sumC (zs.take (j + 1)) = min (sumC (zs.take j)) (cCost (zs.getD j 0)) := foldl_take _ _ _ _ h
theorem prodC_take {zs : List Int} {j : Nat} (h : j < zs.length) : prodC (zs.take (j + 1)) = cMul (prodC (zs.take j)) (zs.getD j 0) := foldl_take _ _ _ _ h
theorem sumG_take {zs : List Int} {j : Nat} (h : j < zs.length) : sumG (zs.take (j + 1)) = max (sumG (zs.take j)) (gCost (zs.getD j 0)) := foldl_take _ _ _ _ h
theorem prodG_take {zs : List Int} {j : Nat} (h : j < zs.length) : prodG (zs.take (j + 1)) = gMul (prodG (zs.take j)) (zs.getD j 0) := foldl_take _ _ _ _ h
theorem sumC_range (zs : List Int) (j : Nat) : 0 ≤ sumC (zs.take j) ∧ sumC (zs.take j) ≤ 4611686018427387904 := by
  induction j with
  | zero => simp [sumC]
  | succ j ih =>
    by_cases h : j < zs.length
    · rw [sumC_take h]
      have := cCost_range (zs.getD j 0)
      omega
    · rw [List.take_of_length_le (by omega)] at ih ⊢
      exact ih
theorem sumG_range (zs : List Int) (j : Nat) : -1 ≤ sumG (zs.take j) ∧ sumG (zs.take j) ≤ 4611686018427387904 := by
  induction j with
  | zero => simp [sumG]
  | succ j ih =>
    by_cases h : j < zs.length
    · rw [sumG_take h]
      have := gCost_range (zs.getD j 0)
      omega
    · rw [List.take_of_length_le (by omega)] at ih ⊢
      exact ih
theorem cAdd_sum {l x : Int} (h : 0 ≤ l ∧ l ≤ 4611686018427387904) : cAdd l x = min l (cCost x) := by
  have h1 : cCost l = l := by unfold cCost; omega
  unfold cAdd
  rw [h1]
theorem gAdd_sum {l x : Int} (h : -1 ≤ l ∧ l ≤ 4611686018427387904) : gAdd l x = max l (gCost x) := by
  have h1 : gCost l = l := by unfold gCost; omega
  unfold gAdd
  rw [h1]

end Go.Proofs.Ytjadgomakoaibaa
