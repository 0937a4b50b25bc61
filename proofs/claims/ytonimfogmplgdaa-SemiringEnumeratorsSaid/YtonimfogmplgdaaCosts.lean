/- The walks of the semiring of costs, and of its law. -/
import Derived.Test.YtonimfogmplgdaaMem
import Derived.Test.YtonimfogmplgdaaChecked
import Derived.Deep.RegionHeld3
import Derived.Deep.CutRange
namespace Go.Proofs.Ytonimfogmplgdaa
open Go.RowKit

/-- The argument, brought into its range. -/
def cCost (x : Int) : Int := min (max x (0)) 4611686018427387904
/-- The sum. -/
def cAdd (a b : Int) : Int := min (cCost a) (cCost b)
/-- The product. -/
def cMul (a b : Int) : Int := min 4611686018427387904 (cCost a + cCost b)
theorem cCost_range (x : Int) : 0 ≤ cCost x ∧ cCost x ≤ 4611686018427387904 := by unfold cCost; omega
/-- An int that is returned. -/
theorem ret_int {v : Value} {x y : Int} (hv : v = .int .i64 x) (h : x = y) : Ending.returned v = .returned (.int .i64 y) := by rw [hv, h]

theorem cCost_any (x : Int) (w : World) : Calls Try.prog 51 #[.int .i64 x] w (Makes (.int .i64 (cCost x)) w) := by
  go_enter Try.func51, Try.ntmps51
  go_wp2
  all_goals
    go_ret
    exact ⟨ret_int rfl (by unfold cCost; omega), Below.refl _ _⟩
theorem rcCost_any (x : Int) (w : World) : Calls Try.prog 27 #[.int .i64 x] w (Makes (.int .i64 (cCost x)) w) := by
  go_enter Try.func27, Try.ntmps27
  go_wp2
  all_goals
    go_ret
    exact ⟨ret_int rfl (by unfold cCost; omega), Below.refl _ _⟩
theorem capped_any (x y : Int) (w : World) (hx : 0 ≤ x ∧ x ≤ 4611686018427387904) (hy : 0 ≤ y ∧ y ≤ 4611686018427387904) : Calls Try.prog 42 #[.int .i64 x, .int .i64 y] w (Makes (.int .i64 (min 4611686018427387904 (x + y))) w) := by
  by_cases h : 4611686018427387904 - y < x
  · have e : min 4611686018427387904 (x + y) = 4611686018427387904 := by omega
    go_enter Try.func42, Try.ntmps42
    go_wp2
    go_ret
    exact ⟨ret_int rfl (by omega), Below.refl _ _⟩
  · have e : min 4611686018427387904 (x + y) = x + y := by omega
    go_enter Try.func42, Try.ntmps42
    go_wp2
    go_ret
    exact ⟨ret_int rfl (by omega), Below.refl _ _⟩
theorem minPlus_zero (w : World) : Calls Try.prog 74 #[.agg #[]] w (Makes (.int .i64 (4611686018427387904)) w) := by
  go_enter Try.func74, Try.ntmps74
  go_wp2
  go_ret
  exact ⟨rfl, (Below.refl _ _).alloc (Nat.le_refl _) _⟩
theorem minPlus_one (w : World) : Calls Try.prog 73 #[.agg #[]] w (Makes (.int .i64 (0)) w) := by
  go_enter Try.func73, Try.ntmps73
  go_wp2
  go_ret
  exact ⟨rfl, (Below.refl _ _).alloc (Nat.le_refl _) _⟩
theorem minPlus_add (a b : Int) (w : World) : Calls Try.prog 72 #[.agg #[], .int .i64 a, .int .i64 b] w (Makes (.int .i64 (cAdd a b)) w) := by
  go_enter Try.func72, Try.ntmps72
  go_wp2_with fail
  refine (cCost_any a _).mono ?_
  rintro e w1 ⟨rfl, hb1⟩
  go_wp2_with fail
  refine (cCost_any b _).mono ?_
  rintro e w2 ⟨rfl, hb2⟩
  have hS := below_step hb2 (below_step hb1 (below_alloc w _))
  clear hb1 hb2
  go_wp2
  all_goals
    go_ret
    exact ⟨ret_int rfl (by unfold cAdd; omega), hS⟩
theorem minPlus_mul (a b : Int) (w : World) : Calls Try.prog 35 #[.agg #[], .int .i64 a, .int .i64 b] w (Makes (.int .i64 (cMul a b)) w) := by
  go_enter Try.func35, Try.ntmps35
  go_wp2_with fail
  refine (cCost_any a _).mono ?_
  rintro e w1 ⟨rfl, hb1⟩
  go_wp2_with fail
  refine (cCost_any b _).mono ?_
  rintro e w2 ⟨rfl, hb2⟩
  have hS := below_step hb2 (below_step hb1 (below_alloc w _))
  clear hb1 hb2
  go_wp2_with fail
  refine (capped_any _ _ _ (cCost_range a) (cCost_range b)).mono ?_
  rintro e w3 ⟨rfl, hb3⟩
  go_wp2
  go_ret
  exact ⟨by rfl, below_step hb3 hS⟩
theorem rminPlus_mul (a b : Int) (w : World) : Calls Try.prog 28 #[.int .i64 a, .int .i64 b] w (Makes (.int .i64 (cMul a b)) w) := by
  have hra := cCost_range a
  have hrb := cCost_range b
  by_cases h : 4611686018427387904 - cCost b < cCost a
  all_goals
    go_enter Try.func28, Try.ntmps28
    go_wp2_with fail
    refine (rcCost_any a _).mono ?_
    rintro e w1 ⟨rfl, hb1⟩
    go_wp2_with fail
    refine (rcCost_any b _).mono ?_
    rintro e w2 ⟨rfl, hb2⟩
    go_wp2
    go_ret
    exact ⟨ret_int rfl (by unfold cMul; omega), below_step hb2 hb1⟩
end Go.Proofs.Ytonimfogmplgdaa
