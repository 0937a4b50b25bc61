/- The walk of nat.Binomial. -/
import Derived.Test.YtpfhohfcohkhnaaTwo
namespace Go.Proofs.Ytpfhohfcohkhnaa
open Go.RowKit

/-- The error of a binomial coefficient, and the number. -/
def binErr (n : Int) : Int := if n < 0 ∨ 4096 < n then 6 else 0
def binNum (n k : Int) : Nat := if (n < 0 ∨ 4096 < n) ∨ k < 0 then 0 else choose n.toNat k.toNat

theorem bin_bad {n k : Int} (h : n < 0 ∨ 4096 < n) : binErr n = 6 ∧ binNum n k = 0 := ⟨if_pos h, if_pos (.inl h)⟩
theorem bin_ok {n : Nat} (h : n ≤ 4096) : binErr (n : Int) = 0 := if_neg (by omega)
theorem bin_num {n k : Nat} (h : n ≤ 4096) : binNum (n : Int) (k : Int) = choose n k := by
  unfold binNum; rw [if_neg (by omega), Int.toNat_natCast, Int.toNat_natCast]
theorem bin_neg {n k : Int} (h : k < 0) : binNum n k = 0 := if_pos (.inr h)
theorem bin_gt {n k : Int} (h : n < k) : binNum n k = 0 := by
  unfold binNum
  split
  · rfl
  · exact choose_lt (by omega)

theorem choose_len_of {n k L : Nat} (h : n < 32 * L) : (limbs (choose n k)).length ≤ L :=
  length_limbs_pow2 (Nat.lt_of_le_of_lt (choose_le n k) (Nat.pow_lt_pow_right (by omega) h))
theorem choose_len {n k : Nat} (h : n ≤ 4096) : (limbs (choose n k)).length ≤ 129 := choose_len_of (by omega)
theorem bin_len (n k : Int) : (limbs (binNum n k)).length ≤ 129 := by
  unfold binNum
  split
  · rw [limbs_zero]; simp
  · exact choose_len (by omega)

/-- The two results. -/
def RetBin (n k : Int) (w : World) (x : Ending) (w' : World) : Prop :=
  ∃ A m c, x = .returned (.tuple #[.slice A m c, .int .i64 (binErr n)]) ∧ Rd w' A m c (limbs (binNum n k)) ∧ Below w.heap.size w w' ∧ m ≤ 129

theorem rd_lit {w : World} {x : Nat} (g : Nat) (hg : g = w.heap.size) (z : Int) (hz : z = (x : Int)) (hx : x < 4294967296) :
    Rd (w.alloc (.cells #[Value.int .u32 z] 56)) (some ⟨g, 0, none⟩) 1 1 [x] := by
  subst hg
  exact (own_one w 56 hz hx).rd

set_option maxHeartbeats 2000000 in
theorem binom_any (n k : Int) (w : World) (hn : -9223372036854775808 ≤ n ∧ n ≤ 9223372036854775807) (hk : -9223372036854775808 ≤ k ∧ k ≤ 9223372036854775807) :
    Calls Try.prog 52 #[.int .i64 n, .int .i64 k] w (RetBin n k w) := by
  obtain ⟨hn1, hn2⟩ := hn
  obtain ⟨hk1, hk2⟩ := hk
  have HLEN := hide (bin_len n k)
  by_cases hbad : n < 0 ∨ 4096 < n
  · have HB := hide (bin_bad (k := k) hbad)
    rcases (show n < 0 ∨ (¬ n < 0 ∧ 4096 < n) by omega) with h1 | ⟨h1, h2⟩
    all_goals
      clear hbad
      go_enter Try.func52, Try.ntmps52
      go_wp2
      go_ret2
      exact ⟨none, 0, 0, by rw [HB.out.1]; rfl, by rw [HB.out.2]; exact Rd.nil w, Below.refl _ _, by omega⟩
  obtain ⟨N, rfl⟩ := Int.eq_ofNat_of_zero_le (show 0 ≤ n by omega)
  have hN : N ≤ 4096 := by omega
  have HE := hide (bin_ok hN)
  have hg1 : ¬ (N : Int) < 0 := by omega
  have hg2 : ¬ (4096 : Int) < (N : Int) := by omega
  by_cases hout : k < 0 ∨ (N : Int) < k
  · have HB : Hid (binNum (N : Int) k = 0) := by
      rcases hout with h9 | h9
      · exact bin_neg h9
      · exact bin_gt h9
    rcases (show k < 0 ∨ (¬ k < 0 ∧ (N : Int) < k) by omega) with h1 | ⟨h1, h2⟩
    all_goals
      clear hout hbad
      go_enter Try.func52, Try.ntmps52
      go_wp2
      go_ret2
      exact ⟨none, 0, 0, by rw [HE.out]; rfl, by rw [HB.out]; exact Rd.nil w, Below.refl _ _, by omega⟩
  obtain ⟨K, rfl⟩ := Int.eq_ofNat_of_zero_le (show 0 ≤ k by omega)
  have hK : K ≤ N := by omega
  have hg3 : ¬ (K : Int) < 0 := by omega
  have hg4 : ¬ (N : Int) < (K : Int) := by omega
  have hM : ∃ M : Nat, min (K : Int) ((N : Int) - (K : Int)) = (M : Int) ∧ M ≤ N ∧ choose N M = choose N K := by
    rcases Nat.le_total K (N - K) with h9 | h9
    · exact ⟨K, by omega, hK, rfl⟩
    · exact ⟨N - K, by omega, by omega, choose_symm hK⟩
  obtain ⟨M, hM1, hM2, hM3⟩ := hM
  have HB : Hid (binNum (N : Int) (K : Int) = choose N M) := (bin_num hN).trans hM3.symm
  have hba := below_alloc w (.cells #[Value.int .u32 1] 56)
  have hone := rd_lit1 (w := w) (x := 1) w.heap.size rfl 1 rfl (by omega) (by omega)
  clear hbad hout hM3
  go_enter Try.func52, Try.ntmps52
  go_wp2_with fail
  go_loopw [6, 27] (fun v i wr => ∃ (j : Nat) (A1 : Option Addr) (n1 c1 : Nat), j ≤ M ∧ i = .int .i64 (j : Int) ∧ v = .slice A1 n1 c1 ∧ Rd wr A1 n1 c1 (limbs (choose N j)) ∧ Below w.heap.size w wr) (fun _ i _ => M - (intOf i).toNat)
  case atStart => exact ⟨0, _, 1, 1, Nat.zero_le _, rfl, rfl, by rw [choose_zero_right]; exact hone, hba⟩
  case round =>
    obtain ⟨j, A1, n1, c1, hj, rfl, rfl, hr, hS⟩ := hrel
    have hlen := choose_len (n := N) (k := j) hN
    have hn1 : n1 ≤ 129 := by rw [← hr.len]; exact hlen
    have HLN := hide hlen
    clear hlen
    by_cases hlt : j < M
    · have hst := choose_step_div (n := N) (k := j) (by omega)
      have HST := hide hst
      have hl1 := rd_lit (w := wr) (x := N - j) wr.heap.size rfl ((N : Int) - (j : Int)) (by omega) (by omega)
      have hr1 := hr.below (below_alloc wr (.cells #[Value.int .u32 ((N : Int) - (j : Int))] 56))
      have hS1 := below_step (below_alloc wr (.cells #[Value.int .u32 ((N : Int) - (j : Int))] 56)) hS
      clear hst hr hS
      go_wp2_with fail
      refine (times_any _ _ _ _ _ _ _ _ _ hr1 hl1 (by omega) (by omega)).mono ?_
      rintro e w2 ⟨A2, n2, c2, rfl, h2, hb2⟩
      have hv2 : val [N - j] = N - j := by rw [val_cons, val_nil]; omega
      rw [val_limbs, hv2] at h2
      have hn2 : n2 ≤ 130 := by
        rw [← h2.len]
        refine length_limbs_le ?_
        have h9 := lt_pow_length (choose N j)
        have h8 : 4294967296 ^ (limbs (choose N j)).length ≤ 4294967296 ^ 129 := Nat.pow_le_pow_right (by omega) HLN.out
        rw [Nat.pow_succ]
        exact Nat.mul_lt_mul'' (Nat.lt_of_lt_of_le h9 h8) (by omega)
      have hS2 := below_step hb2 hS1
      clear hr1 hl1 hb2 hS1 hv2
      go_wp2_with fail
      refine (digit_any A2 n2 c2 _ (j + 1) _ h2 (by omega) (by omega) (by omega)).mono ?_
      rintro e w3 ⟨A3, n3, c3, rfl, h3, hb3⟩
      rw [val_limbs, HST.out] at h3
      have hS3 := below_step hb3 hS2
      clear h2 hb3 hS2
      go_wp2
      go_roundw
      case rel => exact ⟨j + 1, A3, n3, c3, by omega, by go_num, rfl, h3, hS3⟩
      case measure => simp [intOf]; omega
    · obtain rfl : j = M := by omega
      go_wp2_with fail
      refine (trim_any _ _ _ _ _ hr (by omega)).mono ?_
      rintro e w2 ⟨A2, n2, c2, rfl, h2, hb2⟩
      rw [val_limbs] at h2
      go_wp2
      go_ret2
      exact ⟨A2, n2, c2, by rw [HE.out]; rfl, by rw [HB.out]; exact h2, below_step hb2 hS, by rw [← h2.len]; exact HLN.out⟩
end Go.Proofs.Ytpfhohfcohkhnaa
