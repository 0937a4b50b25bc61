/- The numbers of a layered graph as natural numbers: lengths, bounds. -/
import Derived.Test.YtjadgomakoaibaaNats
namespace Go.Proofs.Ytjadgomakoaibaa
open Go.RowKit
theorem natOf_lens (V : List (List Int)) : (V.map fun l => l.map natOf).map List.length = V.map List.length := by simp [Function.comp_def]
theorem natOf_at {V : List (List Int)} (h : ∀ i j, at2 0 V i j ≤ 9223372036854775807) (i j : Nat) : at2 0 (V.map fun l => l.map natOf) i j < 18446744073709551616 := by
  unfold at2
  have h1 : (V.map fun l => l.map natOf).getD i [] = (V.getD i []).map natOf := by
    simp only [List.getD_eq_getElem?_getD, List.getElem?_map]
    cases V[i]? <;> rfl
  rw [h1]
  have h2 : ((V.getD i []).map natOf).getD j 0 = natOf ((V.getD i []).getD j 0) := by
    simp only [List.getD_eq_getElem?_getD, List.getElem?_map]
    cases (V[i]?.getD [])[j]? <;> rfl
  rw [h2]
  have h3 := h i j
  unfold at2 at h3
  unfold natOf
  omega
theorem RdR.int_le {w : World} {A : Option Addr} {n c : Nat} {V : List (List Int)} (h : RdR intC 0 w 1 A n c V) (i j : Nat) : at2 0 V i j ≤ 9223372036854775807 := by
  unfold at2
  by_cases hi : i < n
  · obtain ⟨b, off, Ai, m, e, _, _, _, hv⟩ := h.at hi
    by_cases hj : j < m
    · obtain ⟨_, _, v, _, _, _, h1, _, h2⟩ := hv.at1 hj
      exact h2
    · have := hv.len
      rw [List.getD_eq_getElem?_getD, List.getElem?_eq_none (by omega)]
      decide
  · have := h.len
    have e : V.getD i [] = [] := by rw [List.getD_eq_getElem?_getD, List.getElem?_eq_none (by omega)]; rfl
    rw [e]
    simp

end Go.Proofs.Ytjadgomakoaibaa
