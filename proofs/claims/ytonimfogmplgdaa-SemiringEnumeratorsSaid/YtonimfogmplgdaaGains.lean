/- The walks of the semiring of gains, and of its law. -/
import Derived.Test.YtonimfogmplgdaaMem
import Derived.Test.YtonimfogmplgdaaChecked
import Derived.Deep.RegionHeld3
import Derived.Deep.CutRange
import Derived.Test.YtonimfogmplgdaaCosts
namespace Go.Proofs.Ytonimfogmplgdaa
open Go.RowKit

/-- The argument, brought into its range. -/
def gCost (x : Int) : Int := min (max x (-1)) 4611686018427387904
/-- The sum. -/
def gAdd (a b : Int) : Int := max (gCost a) (gCost b)
/-- The product. -/
def gMul (a b : Int) : Int := if gCost a < 0 ∨ gCost b < 0 then -1 else min 4611686018427387904 (gCost a + gCost b)
theorem gCost_range (x : Int) : -1 ≤ gCost x ∧ gCost x ≤ 4611686018427387904 := by unfold gCost; omega

theorem gCost_any (x : Int) (w : World) : Calls Try.prog 79 #[.int .i64 x] w (Makes (.int .i64 (gCost x)) w) := by
  go_enter Try.func79, Try.ntmps79
  go_wp2
  all_goals
    go_ret
    exact ⟨ret_int rfl (by unfold gCost; omega), Below.refl _ _⟩
theorem rgCost_any (x : Int) (w : World) : Calls Try.prog 31 #[.int .i64 x] w (Makes (.int .i64 (gCost x)) w) := by
  go_enter Try.func31, Try.ntmps31
  go_wp2
  all_goals
    go_ret
    exact ⟨ret_int rfl (by unfold gCost; omega), Below.refl _ _⟩
theorem maxPlus_zero (w : World) : Calls Try.prog 78 #[.agg #[]] w (Makes (.int .i64 (-1)) w) := by
  go_enter Try.func78, Try.ntmps78
  go_wp2
  go_ret
  exact ⟨rfl, (Below.refl _ _).alloc (Nat.le_refl _) _⟩
theorem maxPlus_one (w : World) : Calls Try.prog 77 #[.agg #[]] w (Makes (.int .i64 (0)) w) := by
  go_enter Try.func77, Try.ntmps77
  go_wp2
  go_ret
  exact ⟨rfl, (Below.refl _ _).alloc (Nat.le_refl _) _⟩
theorem maxPlus_add (a b : Int) (w : World) : Calls Try.prog 75 #[.agg #[], .int .i64 a, .int .i64 b] w (Makes (.int .i64 (gAdd a b)) w) := by
  go_enter Try.func75, Try.ntmps75
  go_wp2_with fail
  refine (gCost_any a _).mono ?_
  rintro e w1 ⟨rfl, hb1⟩
  go_wp2_with fail
  refine (gCost_any b _).mono ?_
  rintro e w2 ⟨rfl, hb2⟩
  have hS := below_step hb2 (below_step hb1 (below_alloc w _))
  clear hb1 hb2
  go_wp2
  all_goals
    go_ret
    exact ⟨ret_int rfl (by unfold gAdd; omega), hS⟩
theorem cl_of {x : Int} (h : 0 ≤ x) (h2 : x ≤ 4611686018427387904) : cCost x = x := by unfold cCost; omega
theorem maxPlus_mul (a b : Int) (w : World) : Calls Try.prog 76 #[.agg #[], .int .i64 a, .int .i64 b] w (Makes (.int .i64 (gMul a b)) w) := by
  have hra := gCost_range a
  have hrb := gCost_range b
  by_cases h : gCost a < 0 ∨ gCost b < 0
  · have e0 : gMul a b = -1 := if_pos h
    rcases (show gCost a < 0 ∨ (¬ gCost a < 0 ∧ gCost b < 0) by omega) with h1 | ⟨h1, h2⟩
    all_goals
      clear h
      go_enter Try.func76, Try.ntmps76
      go_wp2_with fail
      refine (gCost_any a _).mono ?_
      rintro e w1 ⟨rfl, hb1⟩
      go_wp2_with fail
      refine (gCost_any b _).mono ?_
      rintro e w2 ⟨rfl, hb2⟩
      have hS := below_step hb2 (below_step hb1 (below_alloc w _))
      clear hb1 hb2
      go_wp2
      go_ret
      exact ⟨by rw [e0]; rfl, hS⟩
  · have e0 : gMul a b = min 4611686018427387904 (gCost a + gCost b) := if_neg h
    have h1 : ¬ gCost a < 0 := by omega
    have h2 : ¬ gCost b < 0 := by omega
    clear h
    go_enter Try.func76, Try.ntmps76
    go_wp2_with fail
    refine (gCost_any a _).mono ?_
    rintro e w1 ⟨rfl, hb1⟩
    go_wp2_with fail
    refine (gCost_any b _).mono ?_
    rintro e w2 ⟨rfl, hb2⟩
    have hS := below_step hb2 (below_step hb1 (below_alloc w _))
    clear hb1 hb2
    go_wp2_with fail
    refine (capped_any _ _ _ ⟨by omega, by omega⟩ ⟨by omega, by omega⟩).mono ?_
    rintro e w3 ⟨rfl, hb3⟩
    go_wp2
    go_ret
    exact ⟨ret_int rfl (by rw [e0]), below_step hb3 hS⟩
theorem rmaxPlus_mul (a b : Int) (w : World) : Calls Try.prog 32 #[.int .i64 a, .int .i64 b] w (Makes (.int .i64 (gMul a b)) w) := by
  have hra := gCost_range a
  have hrb := gCost_range b
  by_cases h : gCost a < 0 ∨ gCost b < 0
  · have e0 : gMul a b = -1 := if_pos h
    rcases (show gCost a < 0 ∨ (¬ gCost a < 0 ∧ gCost b < 0) by omega) with h1 | ⟨h1, h2⟩
    all_goals
      clear h
      go_enter Try.func32, Try.ntmps32
      go_wp2_with fail
      refine (rgCost_any a _).mono ?_
      rintro e w1 ⟨rfl, hb1⟩
      go_wp2_with fail
      refine (rgCost_any b _).mono ?_
      rintro e w2 ⟨rfl, hb2⟩
      have hS := below_step hb2 (below_step hb1 (Below.refl _ _))
      clear hb1 hb2
      go_wp2
      go_ret
      exact ⟨by rw [e0]; rfl, hS⟩
  · have e0 : gMul a b = min 4611686018427387904 (gCost a + gCost b) := if_neg h
    have h1 : ¬ gCost a < 0 := by omega
    have h2 : ¬ gCost b < 0 := by omega
    clear h
    go_enter Try.func32, Try.ntmps32
    go_wp2_with fail
    refine (rgCost_any a _).mono ?_
    rintro e w1 ⟨rfl, hb1⟩
    go_wp2_with fail
    refine (rgCost_any b _).mono ?_
    rintro e w2 ⟨rfl, hb2⟩
    have hS := below_step hb2 (below_step hb1 (Below.refl _ _))
    clear hb1 hb2
    go_wp2_with fail
    refine (rminPlus_mul _ _ _).mono ?_
    rintro e w3 ⟨rfl, hb3⟩
    go_wp2
    go_ret
    exact ⟨ret_int rfl (by rw [e0]; unfold cMul; rw [cl_of (by omega) (by omega), cl_of (by omega) (by omega)]), below_step hb3 hS⟩
end Go.Proofs.Ytonimfogmplgdaa
