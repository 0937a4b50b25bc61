/- The walk of the law NatForms. -/
import Derived.Test.YtpfhohfcohkhnaaSame
namespace Go.Proofs.Ytpfhohfcohkhnaa
open Go.RowKit

set_option maxHeartbeats 1000000 in
theorem forms_law (w : World) (A : Option Addr) (n c : Nat) (l : List Nat) (h : Rd w A n c l) (x : Nat) (hx : x < 18446744073709551616) :
    Calls Try.prog 7 #[.slice A n c, .int .u64 (x : Int)] w (Makes (.bool true) w) := by
  have hba := below_alloc w (.cells #[.slice A n c] 42)
  have hL := rdl_one 42 h
  go_enter Try.func7, Try.ntmps7
  go_wp2_with fail
  refine (long_any 2000 _ 1 1 _ _ hL).mono ?_
  rintro e w' ⟨rfl, rfl⟩
  cases hlong : anyLong 2000 [l] with
  | true =>
    clear hlong
    go_wp2
    go_ret
    exact ⟨rfl, hba⟩
  | false =>
    have hn : n ≤ 2000 := by
      have := anyLong_false hlong l (by simp)
      have := h.len
      omega
    clear hlong hL
    have h0 := h.below hba
    go_wp2_with fail
    refine (int_any A n c l _ h0 (by omega)).mono ?_
    rintro e w' ⟨rfl, rfl⟩
    go_wp2_with fail
    refine (rint_any A n c l _ h0 (by omega)).mono ?_
    rintro e w1 ⟨rfl, hb1⟩
    have hS1 := below_step hb1 hba
    have h1 := h.below hS1
    go_wp2_with fail
    refine (trim_any A n c l _ h1 (by omega)).mono ?_
    rintro e w2 ⟨A2, n2, c2, rfl, r2, hb2⟩
    have hS2 := below_step hb2 hS1
    have h2 := h.below hS2
    go_wp2_with fail
    refine (rtrim_any A n c l _ h2 (by omega)).mono ?_
    rintro e w3 ⟨A3, n3, c3, rfl, r3, hb3⟩
    have hS3 := below_step hb3 hS2
    go_wp2_with fail
    refine (same_yes A2 n2 c2 _ A3 n3 c3 _ (r2.below hb3) r3).mono ?_
    rintro e w4 ⟨rfl, hb4⟩
    have hS4 := below_step hb4 hS3
    clear r2 r3 hb3 hb2 hb1 hb4 h0 h1 h2 hba hS1 hS2 hS3
    go_wp2_with fail
    refine (of_any x _ hx).mono ?_
    rintro e w5 ⟨A5, n5, c5, rfl, r5, hb5⟩
    have hS5 := below_step hb5 hS4
    go_wp2_with fail
    refine (rof_any x _ hx).mono ?_
    rintro e w6 ⟨A6, n6, c6, rfl, r6, hb6⟩
    have hS6 := below_step hb6 hS5
    go_wp2_with fail
    refine (same_yes A5 n5 c5 _ A6 n6 c6 _ (r5.below hb6) r6).mono ?_
    rintro e w7 ⟨rfl, hb7⟩
    have hS7 := below_step hb7 hS6
    have h7 := h.below hS7
    clear r5 r6 hb5 hb6 hb7 hS4 hS5 hS6
    go_wp2_with fail
    refine (bits_any A n c l _ h7 (by omega)).mono ?_
    rintro e w' ⟨rfl, rfl⟩
    go_wp2_with fail
    refine (rbits_any A n c l _ h7 (by omega)).mono ?_
    rintro e w8 ⟨rfl, hb8⟩
    have hS8 := below_step hb8 hS7
    go_wp2
    go_ret
    exact ⟨by simp, hS8⟩
end Go.Proofs.Ytpfhohfcohkhnaa
