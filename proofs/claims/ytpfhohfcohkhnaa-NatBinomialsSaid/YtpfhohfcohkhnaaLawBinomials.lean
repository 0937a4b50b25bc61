/- The walk of the law NatBinomials. -/
import Derived.Test.YtpfhohfcohkhnaaRefBinom
namespace Go.Proofs.Ytpfhohfcohkhnaa
open Go.RowKit

set_option maxHeartbeats 2000000 in
theorem law_NatBinomials (w : World) (n : Int) (hn : -9223372036854775808 ≤ n ∧ n ≤ 9223372036854775807) (k : Int) (hk : -9223372036854775808 ≤ k ∧ k ≤ 9223372036854775807) :
    Calls Try.prog 8 #[.int .i64 n, .int .i64 k] w (Makes (.bool true) w) := by
  have HB1 := hide (fun w => binom_any n k w hn hk)
  have HB2 := hide (fun w => rbinom_any n k w hn hk)
  obtain ⟨hn1, hn2⟩ := hn
  by_cases hbig : 400 < n ∧ n ≤ 4096
  · obtain ⟨h1, h2⟩ := hbig
    go_enter Try.func8, Try.ntmps8
    go_wp2
    go_ret
    exact ⟨rfl, Below.refl _ _⟩
  rcases (show ¬ 400 < n ∨ (400 < n ∧ ¬ n ≤ 4096) by omega) with h1 | ⟨h1, h2⟩
  all_goals
    clear hbig
    go_enter Try.func8, Try.ntmps8
    go_wp2_with fail
    refine (HB1.out _).mono ?_
    rintro e w1 ⟨A1, n1, c1, rfl, h1, hb1, -⟩
    go_wp2_with fail
    refine (HB2.out _).mono ?_
    rintro e w2 ⟨A2, n2, c2, rfl, h2, hb2⟩
    replace h1 := h1.below hb2
    have hS := below_step hb2 hb1
    clear hb1 hb2
    go_wp2_with fail
    refine (same_num_yes h1 h2 rfl).mono ?_
    rintro e w3 ⟨rfl, hb3⟩
    go_wp2
    go_ret
    exact ⟨by simp, below_step hb3 hS⟩
end Go.Proofs.Ytpfhohfcohkhnaa
