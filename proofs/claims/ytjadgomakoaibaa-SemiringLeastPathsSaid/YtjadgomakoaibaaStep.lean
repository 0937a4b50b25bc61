/- The walk of nat.step: one limb of a quotient. -/
import Derived.Test.YtjadgomakoaibaaShift
import Derived.Deep.CutRange
namespace Go.Proofs.Ytjadgomakoaibaa
open Go.RowKit

/-- The window of k + 1 limbs from i on. -/
def win (uu : List Nat) (i k : Nat) : List Nat := (uu.drop i).take (k + 1)
theorem win_len {uu : List Nat} {i k : Nat} (h : i + k + 1 ≤ uu.length) : (win uu i k).length = k + 1 := by
  unfold win; rw [List.length_take, List.length_drop]; omega
theorem win_lim (uu : List Nat) (i k j : Nat) (h : j ≤ k) : lim (win uu i k) j = lim uu (i + j) := by
  unfold win; rw [getD_take _ _ _ (by omega), getD_drop]
theorem win_set (uu : List Nat) (i k j x : Nat) : win (uu.set (i + j) x) i k = (win uu i k).set j x := by
  unfold win
  rw [List.drop_set, if_neg (by omega), List.take_set]
  congr 1
  omega
theorem win_lims {uu : List Nat} (i k : Nat) (h : Lims uu) : Lims (win uu i k) := fun x hx => h x (List.mem_of_mem_drop (List.mem_of_mem_take hx))
/-- Outside the window the row is as it was. -/
def Beside (uu uu' : List Nat) (i k : Nat) : Prop := uu'.take i = uu.take i ∧ uu'.drop (i + k + 1) = uu.drop (i + k + 1)
theorem Beside.refl (uu : List Nat) (i k : Nat) : Beside uu uu i k := ⟨rfl, rfl⟩
theorem Beside.set {uu uu' : List Nat} {i k : Nat} (h : Beside uu uu' i k) (j x : Nat) (hj : j ≤ k) : Beside uu (uu'.set (i + j) x) i k :=
  ⟨by rw [List.take_set_of_le (by omega)]; exact h.1, by rw [List.drop_set_of_lt (by omega)]; exact h.2⟩

theorem only_refl (w : World) (g : Nat) : w.grownBy w (some g) := World.grownBy.refl w _
theorem only_drewN {a w : World} {row : Option Nat} (h : a.grownBy w row) (n : Nat) : a.grownBy (w.drewN n) row := ⟨h.os, h.tape, h.output, h.size, h.block⟩
theorem only_setCell {a w : World} {g k : Nat} (h : a.grownBy w (some g)) (u : Value) : a.grownBy (w.setCell ⟨g, k, none⟩ u) (some g) :=
  ⟨h.os, h.tape, h.output, by simpa [World.setCell] using h.size, fun i hi hne => (Below.heap_setCell w ⟨g, k, none⟩ u i (by
    rintro rfl
    exact hne rfl)).trans (h.block i hi hne)⟩
/-- A row in another block than the one that is written. -/
theorem Own.far {w w' : World} {base : Nat} {e : TypeId} {q g n c : Nat} {l : List Nat} (h : Own w base e (some ⟨q, 0, none⟩) n c l) (hg : w.grownBy w' (some g)) (hne : q ≠ g) : Own w' base e (some ⟨q, 0, none⟩) n c l := by
  refine ⟨⟨h.row.1, ?_⟩, h.lims⟩
  rcases h.row.2 with ⟨h1, _⟩ | ⟨g', cap, cur, h1, hbg, hk, r⟩
  · simp at h1
  · simp at h1
    obtain ⟨rfl, rfl⟩ := h1
    exact .inr ⟨q, c, cur, rfl, hbg, by rw [hg.block q (Array.getElem?_eq_some_iff.1 hk).1 (by simpa using hne)]; exact hk, r⟩
theorem Own.setFar {w : World} {base : Nat} {e : TypeId} {q g k n c : Nat} {l : List Nat} (h : Own w base e (some ⟨q, 0, none⟩) n c l) (hne : q ≠ g) (u : Value) : Own (w.setCell ⟨g, k, none⟩ u) base e (some ⟨q, 0, none⟩) n c l :=
  h.far (only_setCell (only_refl w g) u) hne

theorem ret_u32 {a b : Int} (h : a = b) : Ending.returned (.int .u32 a) = .returned (.int .u32 b) := by rw [h]

/-- The result of a step. -/
def RetStep (w w0 : World) (g N C i k : Nat) (uu vv : List Nat) (x : Ending) (w' : World) : Prop :=
  ∃ uu', w.grownBy w' (some g) ∧ x = .returned (.int .u32 ((val (win uu i k) / val vv : Nat) : Int)) ∧ Own w' w0.heap.size 49 (some ⟨g, 0, none⟩) N C uu' ∧ Beside uu uu' i k ∧ val (win uu' i k) = val (win uu i k) % val vv ∧ Below w0.heap.size w0 w'

theorem borrow_u64 {a y b : Nat} (ha : a < 4294967296) (hy : y < 4294967296) (hb : b ≤ 1) :
    ∃ x b', x + y + b = a + 4294967296 * b' ∧ x < 4294967296 ∧ b' ≤ 1 ∧ IntKind.u64.wrap (IntKind.u64.wrap ((a : Int) - (y : Int)) - (b : Int)) = (((a + 18446744073709551616 - y - b) % 18446744073709551616 : Nat) : Int) ∧
      ((a + 18446744073709551616 - y - b) % 18446744073709551616) % 4294967296 = x ∧ ((a + 18446744073709551616 - y - b) % 18446744073709551616) / 9223372036854775808 = b' := by
  have hw : IntKind.u64.wrap (IntKind.u64.wrap ((a : Int) - (y : Int)) - (b : Int)) = (((a + 18446744073709551616 - y - b) % 18446744073709551616 : Nat) : Int) := by
    rw [wrap_u64', wrap_u64']; omega
  rcases Nat.lt_or_ge a (y + b) with h | h
  · exact ⟨a + 4294967296 - y - b, 1, by omega, by omega, by omega, hw, by omega, by omega⟩
  · exact ⟨a - y - b, 0, by omega, by omega, by omega, hw, by omega, by omega⟩

theorem trial_small {a0 a1 b1 : Nat} (h : a0 ≤ b1) (h1 : a1 < 4294967296) (hb : b1 ≠ 0) : (a0 * 4294967296 + a1) / b1 ≤ 8589934592 ∧ (a0 * 4294967296 + a1) % b1 < b1 := by
  have h2 : a0 * 4294967296 ≤ b1 * 4294967296 := Nat.mul_le_mul_right _ h
  have h3 := Nat.div_mul_le_self (a0 * 4294967296 + a1) b1
  refine ⟨?_, Nat.mod_lt _ (Nat.pos_of_ne_zero hb)⟩
  generalize (a0 * 4294967296 + a1) / b1 = q at *
  rcases Nat.lt_or_ge 8589934592 q with h4 | h4
  · have h5 : 8589934593 * b1 ≤ q * b1 := Nat.mul_le_mul_right _ h4
    omega
  · exact h4

end Go.Proofs.Ytjadgomakoaibaa
