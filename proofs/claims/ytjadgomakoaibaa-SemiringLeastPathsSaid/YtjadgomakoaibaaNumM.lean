/- How great the sums along paths over the natural numbers are: bounds section by section. -/
import Derived.Test.YtjadgomakoaibaaPathM
import Derived.Test.YtjadgomakoaibaaGridRows
namespace Go.Proofs.Ytjadgomakoaibaa
open Go.RowKit

/-- A number that is read. -/
def IsNum (N K : Nat) (v : Value) (w : World) : Prop := ∃ A n c, v = .slice A n c ∧ Rd w A n c (limbs N) ∧ n ≤ K
theorem IsNum.lasting {N K : Nat} : ∀ v w w', Below w.heap.size w w' → IsNum N K v w → IsNum N K v w' := fun _ _ _ hb ⟨A, n, c, h1, h2, h3⟩ => ⟨A, n, c, h1, h2.below hb, h3⟩
theorem natC_zero {K : Nat} {v : Value} {w : World} (h : (natC K).rel 0 v w) (w2 : World) : (natC K).rel 0 v w2 := by
  obtain ⟨A, n, c, h1, h2, h3⟩ := h
  have h4 := h2.len
  rw [limbs_zero] at h4
  have h5 : n = 0 := by simpa using h4.symm
  subst h5
  exact ⟨A, 0, c, h1, ⟨rfl, h2.cap, h2.max, Lims.nil, fun h9 => absurd h9 (by omega)⟩, Nat.zero_le _⟩
theorem natC_wide {N K L : Nat} {v : Value} {w : World} (h : (natC K).rel N v w) (hK : K ≤ L) : (natC L).rel N v w := by
  obtain ⟨A, n, c, h1, h2, h3⟩ := h
  exact ⟨A, n, c, h1, h2, Nat.le_trans h3 hK⟩
/-- One step of a sum over the natural numbers. -/
def upN (l s v : Nat) : Nat := l + s * v
def cap200 : Nat := 4294967296 ^ 200
theorem length_limbs_cap {N : Nat} (h : N < cap200) : (limbs N).length ≤ 200 := length_limbs_le h

theorem at2_set2 {α : Type} {d : α} {R : List (List α)} {i k r c : Nat} {x : α} : at2 d (set2 R i k x) r c = if r = i ∧ c = k ∧ i < R.length ∧ k < (R.getD i []).length then x else at2 d R r c := by
  unfold at2
  by_cases hr : r = i
  · subst hr
    by_cases hl : r < R.length
    · rw [set2_row_self hl]
      by_cases hc : c = k
      · subst hc
        by_cases hk : c < (R.getD r []).length
        · rw [gset_self _ _ _ hk, if_pos ⟨rfl, rfl, hl, hk⟩]
        · rw [List.set_eq_of_length_le (by omega), if_neg (fun h => hk h.2.2.2)]
      · rw [gset_ne _ _ _ (fun e => hc e.symm), if_neg (fun h => hc h.2.1)]
    · rw [if_neg (fun h => hl h.2.2.1)]
      unfold set2
      rw [List.set_eq_of_length_le (by omega)]
  · rw [set2_row_ne (fun e => hr e.symm), if_neg (fun h => hr h.1)]
theorem at2_init {α : Type} {W : List Int} {z : α} {r c : Nat} : at2 z (initR W z) r c = z := by
  unfold at2 initR
  by_cases hr : r < W.length
  · simp only [List.getD_eq_getElem?_getD, List.getElem?_map, List.getElem?_eq_getElem hr, Option.map_some, Option.getD_some, List.getElem?_replicate]
    split <;> rfl
  · simp [List.getD_eq_getElem?_getD, List.getElem?_eq_none (Nat.le_of_not_lt hr)]

theorem pow82 (i : Nat) : 2 ^ (82 * (i + 1)) = 262144 * 2 ^ (82 * i + 64) := by
  rw [show 82 * (i + 1) = 18 + (82 * i + 64) by omega, Nat.pow_add]
theorem pow64 (i : Nat) : 2 ^ (82 * i) * 18446744073709551616 = 2 ^ (82 * i + 64) := by
  rw [Nat.pow_add]
theorem pow_capG (m a : Nat) (h : a < 32 * m) : 2 ^ a < 4294967296 ^ m := by
  rw [show (4294967296 : Nat) = 2 ^ 32 from rfl, ← Nat.pow_mul]
  exact Nat.pow_lt_pow_right (by omega) h
theorem pow_cap {a : Nat} (h : a ≤ 5330) : 2 ^ a < cap200 := pow_capG 200 a (by omega)

/-- Forward: the rows up to i are whole, row i + 1 has been through j edges. -/
def BF (i j : Nat) (R : List (List Nat)) : Prop := ∀ r k, at2 0 R r k ≤ if r ≤ i then 2 ^ (82 * r) else if r = i + 1 then j * 2 ^ (82 * i + 64) else 0
theorem BF.init {W : List Int} : BF 0 0 (set2 (initR W 0) 0 0 1) := by
  intro r k
  rw [at2_set2]
  split
  · rename_i h
    rw [h.1]
    decide
  · rw [at2_init]
    exact Nat.zero_le _
theorem BF.step {i j : Nat} {R : List (List Nat)} (h : BF i j R) {fr tt x : Nat} (hx : x < 18446744073709551616) (hi : i ≤ 63) (hj : j < 262144) :
    at2 0 R (i + 1) tt + at2 0 R i fr * x < cap200 ∧ BF i (j + 1) (set2 R (i + 1) tt (upN (at2 0 R (i + 1) tt) (at2 0 R i fr) x)) := by
  have h1 := h (i + 1) tt
  rw [if_neg (by omega), if_pos rfl] at h1
  have h2 := h i fr
  rw [if_pos (Nat.le_refl _)] at h2
  have h3 : at2 0 R i fr * x ≤ 2 ^ (82 * i + 64) := by
    rw [← pow64]
    exact Nat.mul_le_mul h2 (by omega)
  have h4 : at2 0 R (i + 1) tt + at2 0 R i fr * x ≤ (j + 1) * 2 ^ (82 * i + 64) := by
    rw [Nat.add_mul, Nat.one_mul]
    exact Nat.add_le_add h1 h3
  refine ⟨?_, fun r k => ?_⟩
  · refine Nat.lt_of_le_of_lt (Nat.le_trans h4 (Nat.mul_le_mul_right _ (show j + 1 ≤ 262144 by omega))) ?_
    rw [← pow82]
    exact pow_cap (by omega)
  · rw [at2_set2]
    split
    · rename_i h9
      rw [h9.1, if_neg (by omega), if_pos rfl]
      exact h4
    · refine Nat.le_trans (h r k) ?_
      split
      · exact Nat.le_refl _
      · split
        · exact Nat.mul_le_mul_right _ (by omega)
        · exact Nat.le_refl _
theorem BF.next {i j : Nat} {R : List (List Nat)} (h : BF i j R) (hj : j ≤ 262144) : BF (i + 1) 0 R := by
  intro r k
  refine Nat.le_trans (h r k) ?_
  by_cases h1 : r ≤ i
  · rw [if_pos h1, if_pos (by omega)]
    exact Nat.le_refl _
  · rw [if_neg h1]
    by_cases h2 : r = i + 1
    · subst h2
      rw [if_pos rfl, if_pos (Nat.le_refl _), pow82]
      exact Nat.mul_le_mul_right _ hj
    · rw [if_neg h2]
      exact Nat.zero_le _
/-- Backward: the rows from i on are whole. -/
def BO (n i : Nat) (R : List (List Nat)) : Prop := ∀ r k, at2 0 R r k ≤ if i ≤ r then 2 ^ (82 * (n - r)) else 0
/-- .. those behind i, and row i has been through j edges. -/
def BW (n i j : Nat) (R : List (List Nat)) : Prop := ∀ r k, at2 0 R r k ≤ if i < r then 2 ^ (82 * (n - r)) else if r = i then j * 2 ^ (82 * (n - i - 1) + 64) else 0
theorem BO.init {W : List Int} {n : Nat} : BO n n (set2 (initR W 0) n 0 1) := by
  intro r k
  rw [at2_set2]
  split
  · rename_i h
    rw [h.1, if_pos (Nat.le_refl _), Nat.sub_self]
    decide
  · rw [at2_init]
    exact Nat.zero_le _
theorem BW.start {n i : Nat} {R : List (List Nat)} (h : BO n (i + 1) R) : BW n i 0 R := by
  intro r k
  refine Nat.le_trans (h r k) ?_
  by_cases h1 : i < r
  · rw [if_pos h1, if_pos (by omega)]
    exact Nat.le_refl _
  · rw [if_neg h1, if_neg (by omega)]
    exact Nat.zero_le _
theorem BW.step {n i j : Nat} {R : List (List Nat)} (h : BW n i j R) {fr tt x : Nat} (hx : x < 18446744073709551616) (hi : i < n ∧ n ≤ 64) (hj : j < 262144) :
    at2 0 R i fr + at2 0 R (i + 1) tt * x < cap200 ∧ BW n i (j + 1) (set2 R i fr (upN (at2 0 R i fr) (at2 0 R (i + 1) tt) x)) := by
  have h1 := h i fr
  rw [if_neg (by omega), if_pos rfl] at h1
  have h2 := h (i + 1) tt
  rw [if_pos (by omega)] at h2
  have h3 : at2 0 R (i + 1) tt * x ≤ 2 ^ (82 * (n - i - 1) + 64) := by
    rw [← pow64]
    exact Nat.mul_le_mul h2 (by omega)
  have h4 : at2 0 R i fr + at2 0 R (i + 1) tt * x ≤ (j + 1) * 2 ^ (82 * (n - i - 1) + 64) := by
    rw [Nat.add_mul, Nat.one_mul]
    exact Nat.add_le_add h1 h3
  refine ⟨?_, fun r k => ?_⟩
  · refine Nat.lt_of_le_of_lt (Nat.le_trans h4 (Nat.mul_le_mul_right _ (show j + 1 ≤ 262144 by omega))) ?_
    rw [← pow82]
    exact pow_cap (by omega)
  · rw [at2_set2]
    split
    · rename_i h9
      rw [h9.1, if_neg (by omega), if_pos rfl]
      exact h4
    · refine Nat.le_trans (h r k) ?_
      split
      · exact Nat.le_refl _
      · split
        · exact Nat.mul_le_mul_right _ (by omega)
        · exact Nat.le_refl _
theorem BW.next {n i j : Nat} {R : List (List Nat)} (h : BW n i j R) (hi : i < n) (hj : j ≤ 262144) : BO n i R := by
  intro r k
  refine Nat.le_trans (h r k) ?_
  by_cases h1 : i < r
  · rw [if_pos h1, if_pos (by omega)]
    exact Nat.le_refl _
  · rw [if_neg h1]
    by_cases h2 : r = i
    · subst h2
      have h3 := pow82 (n - r - 1)
      rw [show n - r - 1 + 1 = n - r by omega] at h3
      rw [if_pos rfl, if_pos (Nat.le_refl _), h3]
      exact Nat.mul_le_mul_right _ hj
    · rw [if_neg h2]
      exact Nat.zero_le _
end Go.Proofs.Ytjadgomakoaibaa
