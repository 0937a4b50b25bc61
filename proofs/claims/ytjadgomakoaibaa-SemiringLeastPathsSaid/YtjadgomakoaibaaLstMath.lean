/- The least weights with their numbers, in plain. -/
import Derived.Test.YtjadgomakoaibaaMath
namespace Go.Proofs.Ytjadgomakoaibaa

abbrev LW := Int × Nat
def infW : Int := 4611686018427387904
/-- What a weight and a number count as. -/
def lvW (z : Int) (N : Nat) : LW := if N = 0 ∨ infW ≤ z then (infW, 0) else (max z 0, N)
def CanW (x : LW) : Prop := (x.1 = infW ∧ x.2 = 0) ∨ (0 ≤ x.1 ∧ x.1 < infW ∧ x.2 ≠ 0)
def addW (x y : LW) : LW := if x.1 < y.1 then x else if y.1 < x.1 then y else if x.1 = infW then (infW, 0) else (x.1, x.2 + y.2)
def mulW (x y : LW) : LW := if infW ≤ x.1 + y.1 then (infW, 0) else (x.1 + y.1, x.2 * y.2)
theorem lvW_can (z : Int) (N : Nat) : CanW (lvW z N) := by
  unfold lvW CanW
  split
  · exact .inl ⟨rfl, rfl⟩
  · right
    rename_i h
    have hi : infW = 4611686018427387904 := rfl
    simp only [not_or] at h
    simp only
    omega
theorem addW_can {x y : LW} (h : CanW x) (h' : CanW y) : CanW (addW x y) := by
  unfold addW
  unfold CanW at *
  split
  · exact h
  · split
    · exact h'
    · split
      · exact .inl ⟨rfl, rfl⟩
      · simp only
        omega
theorem mulW_can {x y : LW} (h : CanW x) (h' : CanW y) : CanW (mulW x y) := by
  unfold mulW
  split
  · exact .inl ⟨rfl, rfl⟩
  · rename_i h0
    unfold CanW at *
    have hi : infW = 4611686018427387904 := rfl
    simp only
    right
    refine ⟨by omega, by omega, ?_⟩
    exact Nat.mul_ne_zero (by omega) (by omega)
theorem lvW_self {x : LW} (h : CanW x) : lvW x.1 x.2 = x := by
  obtain ⟨a, n⟩ := x
  unfold lvW
  unfold CanW at h
  simp only at *
  split
  · rename_i h0
    rcases h with ⟨rfl, rfl⟩ | ⟨h1, h2, h3⟩
    · rfl
    · omega
  · rename_i h0
    simp only [not_or] at h0
    rcases h with ⟨rfl, rfl⟩ | ⟨h1, h2, h3⟩
    · exact absurd rfl h0.1
    · rw [Int.max_eq_left h1]
theorem addW_none {x : LW} (h : CanW x) : addW x (infW, 0) = x := by
  obtain ⟨a, n⟩ := x
  unfold addW
  unfold CanW at h
  simp only at *
  rcases h with ⟨rfl, rfl⟩ | ⟨h1, h2, h3⟩
  · simp
  · rw [if_pos h2]
theorem mulW_one {x : LW} (h : CanW x) : mulW x (0, 1) = x := by
  obtain ⟨a, n⟩ := x
  unfold mulW
  unfold CanW at h
  simp only at *
  rcases h with ⟨rfl, rfl⟩ | ⟨h1, h2, h3⟩
  · simp
  · rw [if_neg (by omega)]
    simp
theorem addW_assoc {x y z : LW} (h : CanW x) (h' : CanW y) (h'' : CanW z) : addW x (addW y z) = addW (addW x y) z := by
  obtain ⟨a, n⟩ := x
  obtain ⟨b, m⟩ := y
  obtain ⟨c, k⟩ := z
  unfold addW
  unfold CanW at *
  simp only at *
  repeat' split
  all_goals simp_all
  all_goals omega
theorem mulW_assoc {x y z : LW} (h : CanW x) (h' : CanW y) (h'' : CanW z) : mulW x (mulW y z) = mulW (mulW x y) z := by
  obtain ⟨a, n⟩ := x
  obtain ⟨b, m⟩ := y
  obtain ⟨c, k⟩ := z
  have hi : infW = 4611686018427387904 := rfl
  have hA : 0 ≤ a := by unfold CanW at h; simp only at h; omega
  have hB : 0 ≤ b := by unfold CanW at h'; simp only at h'; omega
  have hC : 0 ≤ c := by unfold CanW at h''; simp only at h''; omega
  unfold mulW
  by_cases h1 : infW ≤ b + c <;> by_cases h2 : infW ≤ a + b <;> simp only [h1, h2, if_true, if_false]
  · rw [if_pos (by omega), if_pos (by omega)]
  · rw [if_pos (by omega), if_pos (by omega)]
  · rw [if_pos (by omega), if_pos (by omega)]
  · by_cases h3 : infW ≤ a + b + c
    · rw [if_pos (by omega), if_pos h3]
    · rw [if_neg (by omega), if_neg h3, Int.add_assoc, Nat.mul_assoc]
theorem mulW_add {x y z : LW} (h : CanW x) (h' : CanW y) (h'' : CanW z) : mulW x (addW y z) = addW (mulW x y) (mulW x z) := by
  obtain ⟨a, n⟩ := x
  obtain ⟨b, m⟩ := y
  obtain ⟨c, k⟩ := z
  have hi : infW = 4611686018427387904 := rfl
  unfold CanW at *
  simp only at *
  unfold mulW addW
  simp only
  by_cases h1 : b < c
  · simp only [h1, if_true]
    by_cases h2 : infW ≤ a + b
    · rw [if_pos h2, if_pos (show infW ≤ a + c by omega)]
      simp
    · rw [if_neg h2]
      by_cases h3 : infW ≤ a + c
      · rw [if_pos h3]
        simp only
        rw [if_pos (by omega)]
      · rw [if_neg h3]
        simp only
        rw [if_pos (by omega)]
  · simp only [h1, if_false]
    by_cases h4 : c < b
    · simp only [h4, if_true]
      by_cases h2 : infW ≤ a + c
      · rw [if_pos h2, if_pos (show infW ≤ a + b by omega)]
        simp
      · rw [if_neg h2]
        by_cases h3 : infW ≤ a + b
        · rw [if_pos h3]
          simp only
          rw [if_neg (by omega), if_pos (by omega)]
        · rw [if_neg h3]
          simp only
          rw [if_neg (by omega), if_pos (by omega)]
    · simp only [h4, if_false]
      obtain rfl : b = c := by omega
      by_cases h5 : b = infW
      · subst h5
        have e : infW ≤ a + infW := by omega
        simp [e]
      · by_cases h2 : infW ≤ a + b
        · simp [h2, h5]
        · have e1 : ¬ a + b = infW := by omega
          simp [h2, h5, e1, Nat.mul_add]
end Go.Proofs.Ytjadgomakoaibaa
