/- The walks of the semiring of booleans, and of its law. -/
import Derived.Test.YtpfhohfcohkhnaaMem
import Derived.Test.YtpfhohfcohkhnaaChecked
import Derived.Deep.RegionHeld3
import Derived.Deep.CutRange
namespace Go.Proofs.Ytpfhohfcohkhnaa
open Go.RowKit

theorem bool_zero (w : World) : Calls Try.prog 21 #[.agg #[]] w (Makes (.bool false) w) := by
  go_enter Try.func21, Try.ntmps21
  go_wp2
  go_ret
  exact ⟨rfl, (Below.refl _ _).alloc (Nat.le_refl _) _⟩
theorem bool_one (w : World) : Calls Try.prog 22 #[.agg #[]] w (Makes (.bool true) w) := by
  go_enter Try.func22, Try.ntmps22
  go_wp2
  go_ret
  exact ⟨rfl, (Below.refl _ _).alloc (Nat.le_refl _) _⟩
/-- a or b, behind a name. -/
def bAdd (a b : Bool) : Bool := a || b
/-- a and b, behind a name. -/
def bMul (a b : Bool) : Bool := a && b
theorem bool_add (a b : Bool) (w : World) : Calls Try.prog 23 #[.agg #[], .bool a, .bool b] w (Makes (.bool (bAdd a b)) w) := by
  cases a <;> cases b <;>
  · go_enter Try.func23, Try.ntmps23
    go_wp2
    go_ret
    exact ⟨rfl, (Below.refl _ _).alloc (Nat.le_refl _) _⟩
theorem bool_mul (a b : Bool) (w : World) : Calls Try.prog 24 #[.agg #[], .bool a, .bool b] w (Makes (.bool (bMul a b)) w) := by
  cases a <;> cases b <;>
  · go_enter Try.func24, Try.ntmps24
    go_wp2
    go_ret
    exact ⟨rfl, (Below.refl _ _).alloc (Nat.le_refl _) _⟩
theorem bool_same (a b : Bool) (w : World) : Calls Try.prog 25 #[.agg #[], .bool a, .bool b] w (Makes (.bool (a == b)) w) := by
  cases a <;> cases b <;>
  · go_enter Try.func25, Try.ntmps25
    go_wp2
    go_ret
    exact ⟨rfl, (Below.refl _ _).alloc (Nat.le_refl _) _⟩

set_option maxHeartbeats 4000000 in
theorem bool_law (a b c : Bool) (w : World) : Calls Try.prog 3 #[.bool a, .bool b, .bool c] w (Makes (.bool true) w) := by
  have h0 := below_alloc w (Obj.cells #[] 23)
  have e1 : bMul a (bAdd b c) = bAdd (bMul a b) (bMul a c) := by unfold bMul bAdd; cases a <;> rfl
  have e2 : bAdd a (bAdd b c) = bAdd (bAdd a b) c := by unfold bAdd; cases a <;> rfl
  have e3 : bMul a (bMul b c) = bMul (bMul a b) c := by unfold bMul; cases a <;> rfl
  go_enter Try.func3, Try.ntmps3
  go_upto_region 2 with (first
      | (go_at_call 21; refine (bool_zero _).mono ?_; rintro e w' ⟨rfl, hb1⟩; have hS := below_step hb1 (by assumption))
      | (go_at_call 22; refine (bool_one _).mono ?_; rintro e w' ⟨rfl, hb1⟩; have hS := below_step hb1 (by assumption))
      | (go_at_call 23; refine (bool_add _ _ _).mono ?_; rintro e w' ⟨rfl, hb1⟩; have hS := below_step hb1 (by assumption))
      | (go_at_call 24; refine (bool_mul _ _ _).mono ?_; rintro e w' ⟨rfl, hb1⟩; have hS := below_step hb1 (by assumption))
      | (go_at_call 25; refine (bool_same _ _ _).mono ?_; rintro e w' ⟨rfl, hb1⟩; have hS := below_step hb1 (by assumption)))
  go_cut [47] from 9 to 47 (fun c47 wx => c47 = .bool false ∧ Below w.heap.size w wx)
  case first =>
    clear e1 e2 e3
    cases a <;> cases b <;>
    · go_wp2_with (first
      | (go_at_call 21; refine (bool_zero _).mono ?_; rintro e w' ⟨rfl, hb1⟩; have hS := below_step hb1 (by assumption))
      | (go_at_call 22; refine (bool_one _).mono ?_; rintro e w' ⟨rfl, hb1⟩; have hS := below_step hb1 (by assumption))
      | (go_at_call 23; refine (bool_add _ _ _).mono ?_; rintro e w' ⟨rfl, hb1⟩; have hS := below_step hb1 (by assumption))
      | (go_at_call 24; refine (bool_mul _ _ _).mono ?_; rintro e w' ⟨rfl, hb1⟩; have hS := below_step hb1 (by assumption))
      | (go_at_call 25; refine (bool_same _ _ _).mono ?_; rintro e w' ⟨rfl, hb1⟩; have hS := below_step hb1 (by assumption)))
      go_meet
      case rel => exact ⟨by rfl, by assumption⟩
  case rest =>
    obtain ⟨rfl, hS⟩ := hcut
    go_wp2_with fail
    go_region_held3 (fun w' => Below w.heap.size w w') (first | assumption | exact Below.drew (by assumption))
      (first
      | (go_at_call 21; refine (bool_zero _).mono ?_; rintro e w' ⟨rfl, hb1⟩; have hS := below_step hb1 (by assumption))
      | (go_at_call 22; refine (bool_one _).mono ?_; rintro e w' ⟨rfl, hb1⟩; have hS := below_step hb1 (by assumption))
      | (go_at_call 23; refine (bool_add _ _ _).mono ?_; rintro e w' ⟨rfl, hb1⟩; have hS := below_step hb1 (by assumption))
      | (go_at_call 24; refine (bool_mul _ _ _).mono ?_; rintro e w' ⟨rfl, hb1⟩; have hS := below_step hb1 (by assumption))
      | (go_at_call 25; refine (bool_same _ _ _).mono ?_; rintro e w' ⟨rfl, hb1⟩; have hS := below_step hb1 (by assumption)))
    go_wp2
    go_ret
    exact ⟨rfl, by assumption⟩
theorem bool_row (w : World) (a b c : Bool) : Calls Try.prog 3 #[.bool a, .bool b, .bool c] w (Makes (.bool true) w) := bool_law a b c w
end Go.Proofs.Ytpfhohfcohkhnaa
