/- The walk of the law NatPowers. -/
import Derived.Test.YtpfhohfcohkhnaaRefPow
namespace Go.Proofs.Ytpfhohfcohkhnaa
open Go.RowKit

set_option maxHeartbeats 2000000 in
theorem law_NatPowers (w : World) (Aa : Option Addr) (na ca : Nat) (la : List Nat) (ha : Rd w Aa na ca la) (z : Int) (hz : -9223372036854775808 ≤ z ∧ z ≤ 9223372036854775807) :
    Calls Try.prog 12 #[.slice Aa na ca, .int .i64 z] w (Makes (.bool true) w) := by
  have hS := below_alloc w (.cells #[.slice Aa na ca] 42)
  have hL := rdl_one 42 ha
  go_enter Try.func12, Try.ntmps12
  go_wp2_with fail
  refine (long_any 20 _ 1 1 _ _ hL).mono ?_
  rintro e w0 ⟨rfl, hw0⟩
  subst hw0
  cases hlong : anyLong 20 [la] with
  | true =>
    clear hlong
    go_wp2
    go_ret
    exact ⟨rfl, hS⟩
  | false =>
    have hna : na ≤ 20 := by
      have := anyLong_false hlong la (by simp)
      have := ha.len
      omega
    clear hlong hL
    obtain ⟨w0, hw0⟩ : ∃ w0, w0 = World.alloc w (.cells #[.slice Aa na ca] 42) := ⟨_, rfl⟩
    rw [← hw0] at hS ⊢
    have ha : Rd w0 Aa na ca la := by rw [hw0]; exact ha.below (below_alloc w (.cells #[.slice Aa na ca] 42))
    clear hw0
    go_wp2_with fail
    refine (pow_any Aa na ca la z _ ha (by omega) hz).mono ?_
    rintro e w1 ⟨A1, n1, c1, rfl, hx, hb1⟩
    replace ha := ha.below hb1
    replace hS := below_step hb1 hS
    clear hb1
    go_wp2_with fail
    refine (rpow_any Aa na ca la z _ ha (by omega) hz).mono ?_
    rintro e w2 ⟨A2, n2, c2, rfl, hy, hb2⟩
    replace ha := ha.below hb2
    replace hx := hx.below hb2
    replace hS := below_step hb2 hS
    clear hb2
    clear hz
    go_wp2_with fail
    refine (same_num_yes hx hy rfl).mono ?_
    rintro e w3 ⟨rfl, hb3⟩
    replace ha := ha.below hb3
    replace hx := hx.below hb3
    replace hy := hy.below hb3
    replace hS := below_step hb3 hS
    clear hb3
    clear hx hy
    go_wp2
    go_ret
    exact ⟨by simp, hS⟩
end Go.Proofs.Ytpfhohfcohkhnaa
