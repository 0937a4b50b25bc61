/- The walk of the reference's Pow. -/
import Derived.Test.YtlomanhmpbapeaaPow
namespace Go.Proofs.Ytlomanhmpbapeaa
open Go.RowKit

/-- A power of 2. -/
def IsPow2 (P : Nat) : Prop := ∃ j, P = 2 ^ j
theorem IsPow2.half {P : Nat} (h : IsPow2 P) (h1 : 1 < P) : IsPow2 (P / 2) ∧ P = 2 * (P / 2) := by
  obtain ⟨j, rfl⟩ := h
  cases j with
  | zero => simp at h1
  | succ j =>
    have e : 2 ^ (j + 1) / 2 = 2 ^ j := by rw [Nat.pow_succ]; omega
    rw [e]
    exact ⟨⟨j, rfl⟩, by rw [Nat.pow_succ]; omega⟩

theorem pow_step (N n d : Nat) : N ^ (n / (2 * d)) * N ^ (n / (2 * d)) * (if n / d % 2 = 1 then N else 1) = N ^ (n / d) := by
  have e1 : n / (2 * d) = n / d / 2 := by rw [Nat.mul_comm, Nat.div_div_eq_div_mul]
  rw [e1, ← Nat.pow_add]
  by_cases h : n / d % 2 = 1
  · rw [if_pos h, ← Nat.pow_succ]; congr 1; omega
  · rw [if_neg h, Nat.mul_one]; congr 1; omega

theorem limbs_pow_mono {N a b : Nat} (hN : N ≠ 0) (h : a ≤ b) : (limbs (N ^ a)).length ≤ (limbs (N ^ b)).length :=
  length_limbs_mono (Nat.pow_le_pow_right (Nat.pos_of_ne_zero hN) h)

set_option maxHeartbeats 2000000 in
theorem rpow_any (A : Option Addr) (n c : Nat) (l : List Nat) (z : Int) (w : World) (h : Rd w A n c l) (hn : n ≤ 1000000) (hz : -9223372036854775808 ≤ z ∧ z ≤ 9223372036854775807) :
    Calls Try.prog 68 #[.slice A n c, .int .i64 z] w (RetPow (val l) z w) := by
  obtain ⟨hz1, hz2⟩ := hz
  by_cases hneg : z < 0
  · have HP := hide (powErr_neg (N := val l) hneg)
    go_enter Try.func68, Try.ntmps68
    go_wp2
    go_ret2
    exact ⟨none, 0, 0, by rw [HP.out.1]; rfl, by rw [HP.out.2]; exact Rd.nil w, Below.refl _ _⟩
  obtain ⟨k, rfl⟩ := Int.eq_ofNat_of_zero_le (show 0 ≤ z by omega)
  by_cases h0 : k = 0
  · subst h0
    have HP := hide (powErr_ok (N := val l) (n := 0) (by rw [Nat.pow_zero]; decide))
    go_enter Try.func68, Try.ntmps68
    go_wp2_with fail
    refine (rtrim1 h hn).mono ?_
    rintro e w1 ⟨A1, n1, c1, rfl, h1, hb1, hn1⟩
    have hone := rd_one w1 w1.heap.size rfl
    have hba := below_step (below_alloc w1 (.cells #[Value.int .u32 1] 30)) hb1
    go_wp2
    go_ret2
    exact ⟨_, 1, 1, by rw [HP.out.1]; rfl, by rw [HP.out.2]; exact hone, hba⟩
  have hk0 : ((k : Int) == 0) = false := by simp; omega
  by_cases h1 : nbits (val l) ≤ 1
  · have HP : Hid (powErr (val l) (k : Int) = 0 ∧ powNum (val l) (k : Int) = val l) := by
      have hv : val l ^ k = val l := by
        rcases (show nbits (val l) = 0 ∨ nbits (val l) = 1 by omega) with h9 | h9
        · rw [nbits_eq_zero.1 h9, Nat.zero_pow (by omega)]
        · rw [nbits_one h9, Nat.one_pow]
      have hl : (limbs (val l)).length ≤ 4096 := by
        rcases (show nbits (val l) = 0 ∨ nbits (val l) = 1 by omega) with h9 | h9
        · rw [nbits_eq_zero.1 h9]; decide
        · rw [nbits_one h9]; decide
      have h9 := powErr_ok (N := val l) (n := k) (by rw [hv]; exact hl)
      exact ⟨h9.1, h9.2.trans hv⟩
    have hle : (nbits (val l) : Int) ≤ 1 := by omega
    clear h1
    go_enter Try.func68, Try.ntmps68
    go_wp2_with fail
    refine (rtrim1 h hn).mono ?_
    rintro e w1 ⟨A1, n1, c1, rfl, h1, hb1, hn1⟩
    go_wp2_with fail
    refine (rbits_any _ _ _ _ _ h1 (by omega)).mono ?_
    rintro e w2 ⟨rfl, hb2⟩
    rw [val_limbs]
    go_wp2
    go_ret2
    exact ⟨A1, n1, c1, by rw [HP.out.1]; rfl, by rw [HP.out.2]; exact h1.below hb2, below_step hb2 hb1⟩
  have hgt : ¬ (nbits (val l) : Int) ≤ 1 := by omega
  have hvne : val l ≠ 0 := fun h9 => h1 (by rw [h9]; decide)
  by_cases hbig : 131072 < k
  · have HP := hide (powErr_big (N := val l) (n := k) (pow_big hvne (by
      have : 1 * k ≤ (nbits (val l) - 1) * k := Nat.mul_le_mul_right _ (by omega)
      omega)))
    clear h0 h1
    go_enter Try.func68, Try.ntmps68
    go_wp2_with fail
    refine (rtrim1 h hn).mono ?_
    rintro e w1 ⟨A1, n1, c1, rfl, h1, hb1, hn1⟩
    go_wp2_with fail
    refine (rbits_any _ _ _ _ _ h1 (by omega)).mono ?_
    rintro e w2 ⟨rfl, hb2⟩
    rw [val_limbs]
    go_wp2
    go_ret2
    exact ⟨none, 0, 0, by rw [HP.out.1]; rfl, by rw [HP.out.2]; exact Rd.nil _, below_step hb2 hb1⟩
  have HVNE := hide hvne
  clear h0 h1 hvne hneg
  go_enter Try.func68, Try.ntmps68
  go_wp2_with fail
  refine (rtrim1 h hn).mono ?_
  rintro e w1 ⟨A1, n1, c1, rfl, h1, hb1, hn1⟩
  go_wp2_with fail
  refine (rbits_any _ _ _ _ _ h1 (by omega)).mono ?_
  rintro e w2 ⟨rfl, hb2⟩
  rw [val_limbs]
  have hS2 := below_step hb2 hb1
  have h2 := h1.below hb2
  have hba := below_alloc w2 (.cells #[Value.int .u32 1] 30)
  clear h1 hb2 hb1
  go_wp2_with fail
  go_loopw [6, 7] (fun a b wr => ∃ (d P : Nat) (A2 : Option Addr) (n2 c2 : Nat), IsPow2 P ∧ (P = 1 ∧ d = 0 ∨ P = 2 * d ∧ 1 ≤ d) ∧ d ≤ 262144 ∧ b = .int .i64 (d : Int) ∧ a = .slice A2 n2 c2 ∧ Rd wr A2 n2 c2 (limbs (val l ^ (k / P))) ∧ n2 ≤ 4096 ∧ Below w2.heap.size w2 wr) (fun _ b _ => (intOf b).toNat)
  case atStart =>
    refine ⟨262144, 524288, _, 1, 1, ⟨19, rfl⟩, .inr ⟨rfl, by omega⟩, Nat.le_refl _, rfl, rfl, ?_, by omega, hba⟩
    rw [show k / 524288 = 0 from Nat.div_eq_of_lt (by omega), Nat.pow_zero]
    exact rd_one w2 _ rfl
  case round =>
    obtain ⟨d, P, A2, n2, c2, hP, hPd, hd, rfl, rfl, h4, hn2, hS⟩ := hrel
    rcases hPd with ⟨rfl, rfl⟩ | ⟨rfl, hd1⟩
    · rw [Nat.div_one] at h4
      have HP := hide (powErr_ok (N := val l) (n := k) (by rw [h4.len]; exact hn2))
      go_wp2
      go_ret2
      exact ⟨A2, n2, c2, by rw [HP.out.1]; rfl, by rw [HP.out.2]; exact h4, below_step hS hS2⟩
    · have h5 := h2.below hS
      have hp2 : IsPow2 d ∧ (d = 1 ∧ d / 2 = 0 ∨ d = 2 * (d / 2) ∧ 1 ≤ d / 2) := by
        have h9 := hP.half (by omega)
        rw [show 2 * d / 2 = d by omega] at h9
        refine ⟨h9.1, ?_⟩
        by_cases h8 : d = 1
        · exact .inl ⟨h8, by omega⟩
        · have := h9.1.half (by omega)
          exact .inr ⟨this.2, by omega⟩
      have hst := pow_step (val l) k d
      have HST := hide hst
      have HP2 := hide hp2
      have hmono : (limbs (val l ^ (k / d))).length ≤ (limbs (val l ^ k)).length := limbs_pow_mono HVNE.out (Nat.div_le_self _ _)
      have HM := hide hmono
      clear hst hp2 hmono hP
      have hqc : ((k / d : Nat) : Int) = (k : Int) / (d : Int) := by simp
      have hq0 : 0 ≤ (k : Int) / (d : Int) := Int.ediv_nonneg (by omega) (by omega)
      have hq1 : (k : Int) / (d : Int) ≤ 131072 := Int.le_trans (Int.ediv_le_self _ (by omega)) (by omega)
      have HQC := hide hqc
      clear hqc
      go_wp2_with fail
      refine (rmul2 h4 h4 (by omega) (by omega)).mono ?_
      rintro e w3 ⟨A3, n3, c3, rfl, h6, hb3, hn3⟩
      rw [val_limbs] at h6
      have h7 := h5.below hb3
      have hS3 := below_step hb3 hS
      clear h4 h5 hb3 hS
      by_cases hodd : k / d % 2 = 1
      · have ho : ((k : Int) / (d : Int) % 2 == 1) = true := by rw [← HQC.out]; simp; omega
        have HX := HST.out
        rw [if_pos hodd] at HX
        have HXH := hide HX
        clear hodd HX
        go_wp2_with fail
        refine (rmul2 h6 h7 (by omega) (by omega)).mono ?_
        rintro e w4 ⟨A4, n4, c4, rfl, h8, hb4, hn4⟩
        rw [val_limbs, val_limbs, HXH.out] at h8
        have hS4 := below_step hb4 hS3
        clear h6 h7 hb4 hS3
        by_cases hb : 4096 < n4
        · have HP := hide (powErr_big (N := val l) (n := k) (by have := HM.out; have := h8.len; omega))
          go_wp2
          go_ret2
          exact ⟨none, 0, 0, by rw [HP.out.1]; rfl, by rw [HP.out.2]; exact Rd.nil _, below_step hS4 hS2⟩
        · go_wp2
          go_roundw
          case rel => exact ⟨d / 2, d, A4, n4, c4, HP2.out.1, HP2.out.2, by omega, by go_num, rfl, h8, by omega, hS4⟩
          case measure => simp [intOf]; omega
      · have ho : ((k : Int) / (d : Int) % 2 == 1) = false := by rw [← HQC.out]; simp; omega
        have HX := HST.out
        rw [if_neg hodd, Nat.mul_one] at HX
        rw [HX] at h6
        clear hodd HX
        by_cases hb : 4096 < n3
        · have HP := hide (powErr_big (N := val l) (n := k) (by have := HM.out; have := h6.len; omega))
          go_wp2
          go_ret2
          exact ⟨none, 0, 0, by rw [HP.out.1]; rfl, by rw [HP.out.2]; exact Rd.nil _, below_step hS3 hS2⟩
        · go_wp2
          go_roundw
          case rel => exact ⟨d / 2, d, A3, n3, c3, HP2.out.1, HP2.out.2, by omega, by go_num, rfl, h6, by omega, hS3⟩
          case measure => simp [intOf]; omega
end Go.Proofs.Ytlomanhmpbapeaa
