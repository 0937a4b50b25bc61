/- The walk of the law SemiringCosts. -/
import Derived.Test.YtpfhohfcohkhnaaCosts
namespace Go.Proofs.Ytpfhohfcohkhnaa
open Go.RowKit

theorem minPlus_sameQ (a b : Int) (q : Bool) (w : World) (h : decide (cCost a = cCost b) = q) : Calls Try.prog 32 #[.agg #[], .int .i64 a, .int .i64 b] w (Makes (.bool q) w) := by
  subst h; exact minPlus_same a b w
theorem minPlus_e1 (a b c : Int) : cMul a (cAdd b c) = cAdd (cMul a b) (cMul a c) := by
  unfold cMul cAdd cCost <;> omega
theorem minPlus_e2 (a b c : Int) : cAdd a (cAdd b c) = cAdd (cAdd a b) c := by unfold cAdd cCost; omega
theorem minPlus_e3 (a b c : Int) : cMul a (cMul b c) = cMul (cMul a b) c := by
  unfold cMul cCost <;> omega
theorem minPlus_e4 (a : Int) : cMul a (4611686018427387904) = 4611686018427387904 := by unfold cMul cCost <;> omega
theorem minPlus_e5 (a : Int) : cCost (cMul a 0) = cCost a := by unfold cMul cCost <;> omega
theorem minPlus_e6 (a : Int) : cCost (cAdd a (4611686018427387904)) = cCost a := by unfold cAdd cCost; omega

set_option maxHeartbeats 4000000 in
set_option maxRecDepth 4000 in
theorem minPlus_law (w : World) (a : Int) (_ : -9223372036854775808 ≤ a ∧ a ≤ 9223372036854775807) (b : Int) (_ : -9223372036854775808 ≤ b ∧ b ≤ 9223372036854775807) (c : Int) (_ : -9223372036854775808 ≤ c ∧ c ≤ 9223372036854775807) :
    Calls Try.prog 4 #[.int .i64 a, .int .i64 b, .int .i64 c] w (Makes (.bool true) w) := by
  have h0 := below_alloc w (Obj.cells #[] 27)
  have e0 : cAdd a b = min (cCost a) (cCost b) := rfl
  have e1 := minPlus_e1 a b c
  have e2 := minPlus_e2 a b c
  have e3 := minPlus_e3 a b c
  have e4 := minPlus_e4 a
  have e5 := minPlus_e5 a
  have e6 := minPlus_e6 a
  go_enter Try.func4, Try.ntmps4
  go_upto_region 2 with (first
      | (go_at_call 26; refine (minPlus_zero _).mono ?_; rintro e w' ⟨rfl, hb1⟩; have hS := below_step hb1 (by assumption))
      | (go_at_call 27; refine (minPlus_one _).mono ?_; rintro e w' ⟨rfl, hb1⟩; have hS := below_step hb1 (by assumption))
      | (go_at_call 28; refine (minPlus_add _ _ _).mono ?_; rintro e w' ⟨rfl, hb1⟩; have hS := below_step hb1 (by assumption))
      | (go_at_call 30; refine (minPlus_mul _ _ _).mono ?_; rintro e w' ⟨rfl, hb1⟩; have hS := below_step hb1 (by assumption))
      | (go_at_call 32; refine (minPlus_same _ _ _).mono ?_; rintro e w' ⟨rfl, hb1⟩; have hS := below_step hb1 (by assumption))
      | (go_at_call 29; refine (rcCost_any _ _).mono ?_; rintro e w' ⟨rfl, hb1⟩; have hS := below_step hb1 (by assumption))
      | (go_at_call 31; refine (rminPlus_mul _ _ _).mono ?_; rintro e w' ⟨rfl, hb1⟩; have hS := below_step hb1 (by assumption)))
  go_cut [38] from 9 to 38 (fun c38 wx => c38 = .bool false ∧ Below w.heap.size w wx)
  case first =>
    clear e1 e2 e3 e4 e5 e6
    go_wp2_with (first
      | (go_at_call 26; refine (minPlus_zero _).mono ?_; rintro e w' ⟨rfl, hb1⟩; have hS := below_step hb1 (by assumption))
      | (go_at_call 27; refine (minPlus_one _).mono ?_; rintro e w' ⟨rfl, hb1⟩; have hS := below_step hb1 (by assumption))
      | (go_at_call 28; refine (minPlus_add _ _ _).mono ?_; rintro e w' ⟨rfl, hb1⟩; have hS := below_step hb1 (by assumption))
      | (go_at_call 30; refine (minPlus_mul _ _ _).mono ?_; rintro e w' ⟨rfl, hb1⟩; have hS := below_step hb1 (by assumption))
      | (go_at_call 32; refine (minPlus_same _ _ _).mono ?_; rintro e w' ⟨rfl, hb1⟩; have hS := below_step hb1 (by assumption))
      | (go_at_call 29; refine (rcCost_any _ _).mono ?_; rintro e w' ⟨rfl, hb1⟩; have hS := below_step hb1 (by assumption))
      | (go_at_call 31; refine (rminPlus_mul _ _ _).mono ?_; rintro e w' ⟨rfl, hb1⟩; have hS := below_step hb1 (by assumption)))
    all_goals
      go_meet
      case rel => exact ⟨by rfl, by assumption⟩
  case rest =>
    clear e0
    obtain ⟨rfl, hS⟩ := hcut
    go_upto_region 4 with fail
    go_cut [78] from 39 to 78 (fun c78 wx => c78 = .bool false ∧ Below w.heap.size w wx)
    case first =>
      clear e1 e2 e3
      have d2 : decide (cCost (cMul a 0) = cCost a) = true := decide_eq_true e5
      have d3 : decide (cCost (cAdd a (4611686018427387904)) = cCost a) = true := decide_eq_true e6
      clear e5 e6
      by_cases hq : cCost a = cCost b
      · have d1 : decide (cCost a = cCost b) = true := decide_eq_true hq
        have hq2 : (cCost a == cCost b) = true := by simpa using hq
        go_wp2_with fail
        go_region_held3 (fun w' => Below w.heap.size w w') (first | assumption | exact Below.drew (by assumption))
          (first
          | (go_at_call 26; refine (minPlus_zero _).mono ?_; rintro e w' ⟨rfl, hb1⟩; have hS := below_step hb1 (by assumption))
          | (go_at_call 27; refine (minPlus_one _).mono ?_; rintro e w' ⟨rfl, hb1⟩; have hS := below_step hb1 (by assumption))
          | (go_at_call 28; refine (minPlus_add _ _ _).mono ?_; rintro e w' ⟨rfl, hb1⟩; have hS := below_step hb1 (by assumption))
          | (go_at_call 30; refine (minPlus_mul _ _ _).mono ?_; rintro e w' ⟨rfl, hb1⟩; have hS := below_step hb1 (by assumption))
          | (go_at_call 32; refine (minPlus_sameQ _ _ _ _ (by assumption)).mono ?_; rintro e w' ⟨rfl, hb1⟩; have hS := below_step hb1 (by assumption))
          | (go_at_call 29; refine (rcCost_any _ _).mono ?_; rintro e w' ⟨rfl, hb1⟩; have hS := below_step hb1 (by assumption))
          | (go_at_call 31; refine (rminPlus_mul _ _ _).mono ?_; rintro e w' ⟨rfl, hb1⟩; have hS := below_step hb1 (by assumption)))
        all_goals
          go_wp2
          go_meet
          case rel => exact ⟨by rfl, by assumption⟩
      · have d1 : decide (cCost a = cCost b) = false := decide_eq_false hq
        have hq2 : (cCost a == cCost b) = false := by simpa using hq
        go_wp2_with fail
        go_region_held3 (fun w' => Below w.heap.size w w') (first | assumption | exact Below.drew (by assumption))
          (first
          | (go_at_call 26; refine (minPlus_zero _).mono ?_; rintro e w' ⟨rfl, hb1⟩; have hS := below_step hb1 (by assumption))
          | (go_at_call 27; refine (minPlus_one _).mono ?_; rintro e w' ⟨rfl, hb1⟩; have hS := below_step hb1 (by assumption))
          | (go_at_call 28; refine (minPlus_add _ _ _).mono ?_; rintro e w' ⟨rfl, hb1⟩; have hS := below_step hb1 (by assumption))
          | (go_at_call 30; refine (minPlus_mul _ _ _).mono ?_; rintro e w' ⟨rfl, hb1⟩; have hS := below_step hb1 (by assumption))
          | (go_at_call 32; refine (minPlus_sameQ _ _ _ _ (by assumption)).mono ?_; rintro e w' ⟨rfl, hb1⟩; have hS := below_step hb1 (by assumption))
          | (go_at_call 29; refine (rcCost_any _ _).mono ?_; rintro e w' ⟨rfl, hb1⟩; have hS := below_step hb1 (by assumption))
          | (go_at_call 31; refine (rminPlus_mul _ _ _).mono ?_; rintro e w' ⟨rfl, hb1⟩; have hS := below_step hb1 (by assumption)))
        all_goals
          go_wp2
          go_meet
          case rel => exact ⟨by rfl, by assumption⟩
    case rest =>
      clear e4 e5 e6
      obtain ⟨rfl, hS⟩ := hcut
      go_wp2_with fail
      go_region_held3 (fun w' => Below w.heap.size w w') (first | assumption | exact Below.drew (by assumption))
        (first
      | (go_at_call 26; refine (minPlus_zero _).mono ?_; rintro e w' ⟨rfl, hb1⟩; have hS := below_step hb1 (by assumption))
      | (go_at_call 27; refine (minPlus_one _).mono ?_; rintro e w' ⟨rfl, hb1⟩; have hS := below_step hb1 (by assumption))
      | (go_at_call 28; refine (minPlus_add _ _ _).mono ?_; rintro e w' ⟨rfl, hb1⟩; have hS := below_step hb1 (by assumption))
      | (go_at_call 30; refine (minPlus_mul _ _ _).mono ?_; rintro e w' ⟨rfl, hb1⟩; have hS := below_step hb1 (by assumption))
      | (go_at_call 32; refine (minPlus_same _ _ _).mono ?_; rintro e w' ⟨rfl, hb1⟩; have hS := below_step hb1 (by assumption))
      | (go_at_call 29; refine (rcCost_any _ _).mono ?_; rintro e w' ⟨rfl, hb1⟩; have hS := below_step hb1 (by assumption))
      | (go_at_call 31; refine (rminPlus_mul _ _ _).mono ?_; rintro e w' ⟨rfl, hb1⟩; have hS := below_step hb1 (by assumption)))
      go_wp2
      go_ret
      exact ⟨rfl, by assumption⟩
end Go.Proofs.Ytpfhohfcohkhnaa
