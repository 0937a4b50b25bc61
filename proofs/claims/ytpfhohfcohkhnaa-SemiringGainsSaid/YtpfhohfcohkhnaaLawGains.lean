/- The walk of the law SemiringGains. -/
import Derived.Test.YtpfhohfcohkhnaaGains
namespace Go.Proofs.Ytpfhohfcohkhnaa
open Go.RowKit

theorem maxPlus_sameQ (a b : Int) (q : Bool) (w : World) (h : decide (gCost a = gCost b) = q) : Calls Try.prog 39 #[.agg #[], .int .i64 a, .int .i64 b] w (Makes (.bool q) w) := by
  subst h; exact maxPlus_same a b w
theorem maxPlus_e1 (a b c : Int) : gMul a (gAdd b c) = gAdd (gMul a b) (gMul a c) := by
  unfold gMul gAdd gCost; repeat' split <;> omega
theorem maxPlus_e2 (a b c : Int) : gAdd a (gAdd b c) = gAdd (gAdd a b) c := by unfold gAdd gCost; omega
theorem maxPlus_e3 (a b c : Int) : gMul a (gMul b c) = gMul (gMul a b) c := by
  unfold gMul gCost; repeat' split <;> omega
theorem maxPlus_e4 (a : Int) : gMul a (-1) = -1 := by unfold gMul gCost; repeat' split <;> omega
theorem maxPlus_e5 (a : Int) : gCost (gMul a 0) = gCost a := by unfold gMul gCost; repeat' split <;> omega
theorem maxPlus_e6 (a : Int) : gCost (gAdd a (-1)) = gCost a := by unfold gAdd gCost; omega

set_option maxHeartbeats 4000000 in
set_option maxRecDepth 4000 in
theorem maxPlus_law (w : World) (a : Int) (_ : -9223372036854775808 ≤ a ∧ a ≤ 9223372036854775807) (b : Int) (_ : -9223372036854775808 ≤ b ∧ b ≤ 9223372036854775807) (c : Int) (_ : -9223372036854775808 ≤ c ∧ c ≤ 9223372036854775807) :
    Calls Try.prog 5 #[.int .i64 a, .int .i64 b, .int .i64 c] w (Makes (.bool true) w) := by
  have h0 := below_alloc w (Obj.cells #[] 33)
  have e0 : gAdd a b = max (gCost a) (gCost b) := rfl
  have e1 := maxPlus_e1 a b c
  have e2 := maxPlus_e2 a b c
  have e3 := maxPlus_e3 a b c
  have e4 := maxPlus_e4 a
  have e5 := maxPlus_e5 a
  have e6 := maxPlus_e6 a
  go_enter Try.func5, Try.ntmps5
  go_upto_region 2 with (first
      | (go_at_call 33; refine (maxPlus_zero _).mono ?_; rintro e w' ⟨rfl, hb1⟩; have hS := below_step hb1 (by assumption))
      | (go_at_call 34; refine (maxPlus_one _).mono ?_; rintro e w' ⟨rfl, hb1⟩; have hS := below_step hb1 (by assumption))
      | (go_at_call 35; refine (maxPlus_add _ _ _).mono ?_; rintro e w' ⟨rfl, hb1⟩; have hS := below_step hb1 (by assumption))
      | (go_at_call 37; refine (maxPlus_mul _ _ _).mono ?_; rintro e w' ⟨rfl, hb1⟩; have hS := below_step hb1 (by assumption))
      | (go_at_call 39; refine (maxPlus_same _ _ _).mono ?_; rintro e w' ⟨rfl, hb1⟩; have hS := below_step hb1 (by assumption))
      | (go_at_call 36; refine (rgCost_any _ _).mono ?_; rintro e w' ⟨rfl, hb1⟩; have hS := below_step hb1 (by assumption))
      | (go_at_call 38; refine (rmaxPlus_mul _ _ _).mono ?_; rintro e w' ⟨rfl, hb1⟩; have hS := below_step hb1 (by assumption)))
  go_cut [38] from 9 to 38 (fun c38 wx => c38 = .bool false ∧ Below w.heap.size w wx)
  case first =>
    clear e1 e2 e3 e4 e5 e6
    go_wp2_with (first
      | (go_at_call 33; refine (maxPlus_zero _).mono ?_; rintro e w' ⟨rfl, hb1⟩; have hS := below_step hb1 (by assumption))
      | (go_at_call 34; refine (maxPlus_one _).mono ?_; rintro e w' ⟨rfl, hb1⟩; have hS := below_step hb1 (by assumption))
      | (go_at_call 35; refine (maxPlus_add _ _ _).mono ?_; rintro e w' ⟨rfl, hb1⟩; have hS := below_step hb1 (by assumption))
      | (go_at_call 37; refine (maxPlus_mul _ _ _).mono ?_; rintro e w' ⟨rfl, hb1⟩; have hS := below_step hb1 (by assumption))
      | (go_at_call 39; refine (maxPlus_same _ _ _).mono ?_; rintro e w' ⟨rfl, hb1⟩; have hS := below_step hb1 (by assumption))
      | (go_at_call 36; refine (rgCost_any _ _).mono ?_; rintro e w' ⟨rfl, hb1⟩; have hS := below_step hb1 (by assumption))
      | (go_at_call 38; refine (rmaxPlus_mul _ _ _).mono ?_; rintro e w' ⟨rfl, hb1⟩; have hS := below_step hb1 (by assumption)))
    all_goals
      go_meet
      case rel => exact ⟨by rfl, by assumption⟩
  case rest =>
    clear e0
    obtain ⟨rfl, hS⟩ := hcut
    go_upto_region 4 with fail
    go_cut [78] from 39 to 78 (fun c78 wx => c78 = .bool false ∧ Below w.heap.size w wx)
    case first =>
      clear e1 e2 e3
      have d2 : decide (gCost (gMul a 0) = gCost a) = true := decide_eq_true e5
      have d3 : decide (gCost (gAdd a (-1)) = gCost a) = true := decide_eq_true e6
      clear e5 e6
      by_cases hq : gCost a = gCost b
      · have d1 : decide (gCost a = gCost b) = true := decide_eq_true hq
        have hq2 : (gCost a == gCost b) = true := by simpa using hq
        go_wp2_with fail
        go_region_held3 (fun w' => Below w.heap.size w w') (first | assumption | exact Below.drew (by assumption))
          (first
          | (go_at_call 33; refine (maxPlus_zero _).mono ?_; rintro e w' ⟨rfl, hb1⟩; have hS := below_step hb1 (by assumption))
          | (go_at_call 34; refine (maxPlus_one _).mono ?_; rintro e w' ⟨rfl, hb1⟩; have hS := below_step hb1 (by assumption))
          | (go_at_call 35; refine (maxPlus_add _ _ _).mono ?_; rintro e w' ⟨rfl, hb1⟩; have hS := below_step hb1 (by assumption))
          | (go_at_call 37; refine (maxPlus_mul _ _ _).mono ?_; rintro e w' ⟨rfl, hb1⟩; have hS := below_step hb1 (by assumption))
          | (go_at_call 39; refine (maxPlus_sameQ _ _ _ _ (by assumption)).mono ?_; rintro e w' ⟨rfl, hb1⟩; have hS := below_step hb1 (by assumption))
          | (go_at_call 36; refine (rgCost_any _ _).mono ?_; rintro e w' ⟨rfl, hb1⟩; have hS := below_step hb1 (by assumption))
          | (go_at_call 38; refine (rmaxPlus_mul _ _ _).mono ?_; rintro e w' ⟨rfl, hb1⟩; have hS := below_step hb1 (by assumption)))
        all_goals
          go_wp2
          go_meet
          case rel => exact ⟨by rfl, by assumption⟩
      · have d1 : decide (gCost a = gCost b) = false := decide_eq_false hq
        have hq2 : (gCost a == gCost b) = false := by simpa using hq
        go_wp2_with fail
        go_region_held3 (fun w' => Below w.heap.size w w') (first | assumption | exact Below.drew (by assumption))
          (first
          | (go_at_call 33; refine (maxPlus_zero _).mono ?_; rintro e w' ⟨rfl, hb1⟩; have hS := below_step hb1 (by assumption))
          | (go_at_call 34; refine (maxPlus_one _).mono ?_; rintro e w' ⟨rfl, hb1⟩; have hS := below_step hb1 (by assumption))
          | (go_at_call 35; refine (maxPlus_add _ _ _).mono ?_; rintro e w' ⟨rfl, hb1⟩; have hS := below_step hb1 (by assumption))
          | (go_at_call 37; refine (maxPlus_mul _ _ _).mono ?_; rintro e w' ⟨rfl, hb1⟩; have hS := below_step hb1 (by assumption))
          | (go_at_call 39; refine (maxPlus_sameQ _ _ _ _ (by assumption)).mono ?_; rintro e w' ⟨rfl, hb1⟩; have hS := below_step hb1 (by assumption))
          | (go_at_call 36; refine (rgCost_any _ _).mono ?_; rintro e w' ⟨rfl, hb1⟩; have hS := below_step hb1 (by assumption))
          | (go_at_call 38; refine (rmaxPlus_mul _ _ _).mono ?_; rintro e w' ⟨rfl, hb1⟩; have hS := below_step hb1 (by assumption)))
        all_goals
          go_wp2
          go_meet
          case rel => exact ⟨by rfl, by assumption⟩
    case rest =>
      clear e4 e5 e6
      obtain ⟨rfl, hS⟩ := hcut
      go_wp2_with fail
      go_region_held3 (fun w' => Below w.heap.size w w') (first | assumption | exact Below.drew (by assumption))
        (first
      | (go_at_call 33; refine (maxPlus_zero _).mono ?_; rintro e w' ⟨rfl, hb1⟩; have hS := below_step hb1 (by assumption))
      | (go_at_call 34; refine (maxPlus_one _).mono ?_; rintro e w' ⟨rfl, hb1⟩; have hS := below_step hb1 (by assumption))
      | (go_at_call 35; refine (maxPlus_add _ _ _).mono ?_; rintro e w' ⟨rfl, hb1⟩; have hS := below_step hb1 (by assumption))
      | (go_at_call 37; refine (maxPlus_mul _ _ _).mono ?_; rintro e w' ⟨rfl, hb1⟩; have hS := below_step hb1 (by assumption))
      | (go_at_call 39; refine (maxPlus_same _ _ _).mono ?_; rintro e w' ⟨rfl, hb1⟩; have hS := below_step hb1 (by assumption))
      | (go_at_call 36; refine (rgCost_any _ _).mono ?_; rintro e w' ⟨rfl, hb1⟩; have hS := below_step hb1 (by assumption))
      | (go_at_call 38; refine (rmaxPlus_mul _ _ _).mono ?_; rintro e w' ⟨rfl, hb1⟩; have hS := below_step hb1 (by assumption)))
      go_wp2
      go_ret
      exact ⟨rfl, by assumption⟩
end Go.Proofs.Ytpfhohfcohkhnaa
