/- The walk of nat.Pow. -/
import Derived.Test.YtlomanhmpbapeaaTwo
namespace Go.Proofs.Ytlomanhmpbapeaa
open Go.RowKit

theorem pow_big {N n M : Nat} (hN : N ≠ 0) (h : 32 * M ≤ (nbits N - 1) * n) : M < (limbs (N ^ n)).length := length_limbs_gt (pow_ge_of hN h)
theorem pow_len {N n M : Nat} (hn : n ≠ 0) (h : nbits N * n ≤ 32 * M) : (limbs (N ^ n)).length ≤ M := length_limbs_pow2 (pow_lt_of h hn)

/-- The error of a power: ErrRange (6), ErrBig (8), or OK (0). -/
def powErr (N : Nat) (n : Int) : Int := if n < 0 then 6 else if 4096 < (limbs (N ^ n.toNat)).length then 8 else 0
/-- The number that comes with it. -/
def powNum (N : Nat) (n : Int) : Nat := if powErr N n = 0 then N ^ n.toNat else 0

theorem powErr_neg {N : Nat} {n : Int} (h : n < 0) : powErr N n = 6 ∧ powNum N n = 0 := by
  have h1 : powErr N n = 6 := if_pos h
  exact ⟨h1, by unfold powNum; rw [h1]; rfl⟩
theorem powErr_big {N n : Nat} (h : 4096 < (limbs (N ^ n)).length) : powErr N (n : Int) = 8 ∧ powNum N (n : Int) = 0 := by
  have h1 : powErr N (n : Int) = 8 := by unfold powErr; rw [if_neg (by omega), Int.toNat_natCast, if_pos h]
  exact ⟨h1, by unfold powNum; rw [h1]; rfl⟩
theorem powErr_ok {N n : Nat} (h : (limbs (N ^ n)).length ≤ 4096) : powErr N (n : Int) = 0 ∧ powNum N (n : Int) = N ^ n := by
  have h1 : powErr N (n : Int) = 0 := by unfold powErr; rw [if_neg (by omega), Int.toNat_natCast, if_neg (by omega)]
  exact ⟨h1, by unfold powNum; rw [h1]; rfl⟩

/-- The two results of a power. -/
def RetPow (N : Nat) (n : Int) (w : World) (x : Ending) (w' : World) : Prop :=
  ∃ A k c, x = .returned (.tuple #[.slice A k c, .int .i64 (powErr N n)]) ∧ Rd w' A k c (limbs (powNum N n)) ∧ Below w.heap.size w w'

theorem and_one (k : Nat) (h : k < 9223372036854775808) : bits .and .i64 (k : Int) 1 = ((k % 2 : Nat) : Int) := by
  show IntKind.i64.wrap ((BitVec.ofInt 64 (k : Int) &&& BitVec.ofInt 64 1).toNat : Int) = _
  rw [BitVec.toNat_and, BitVec.ofInt_natCast, BitVec.toNat_ofNat, Nat.mod_eq_of_lt (by omega)]
  rw [show (BitVec.ofInt 64 1).toNat = 1 from rfl, Nat.and_one_is_mod, IntKind.wrap_i64]
  omega

theorem nbits_one {x : Nat} (h : nbits x = 1) : x = 1 := by
  have h1 := lt_nbits x
  rw [h] at h1
  have : x ≠ 0 := by rintro rfl; rw [nbits_zero] at h; cases h
  omega

theorem rd_one (w : World) (g : Nat) (hg : g = w.heap.size) : Rd (w.alloc (.cells #[Value.int .u32 1] 30)) (some ⟨g, 0, none⟩) 1 1 (limbs 1) :=
  rd_lit1 g hg 1 rfl (by omega) (by omega)

set_option maxHeartbeats 2000000 in
theorem pow_any (A : Option Addr) (n c : Nat) (l : List Nat) (z : Int) (w : World) (h : Rd w A n c l) (hn : n ≤ 1000000) (hz : -9223372036854775808 ≤ z ∧ z ≤ 9223372036854775807) :
    Calls Try.prog 66 #[.slice A n c, .int .i64 z] w (RetPow (val l) z w) := by
  obtain ⟨hz1, hz2⟩ := hz
  by_cases hneg : z < 0
  · have HP := hide (powErr_neg (N := val l) hneg)
    go_enter Try.func66, Try.ntmps66
    go_wp2
    go_ret2
    exact ⟨none, 0, 0, by rw [HP.out.1]; rfl, by rw [HP.out.2]; exact Rd.nil w, Below.refl _ _⟩
  obtain ⟨k, rfl⟩ := Int.eq_ofNat_of_zero_le (show 0 ≤ z by omega)
  have hba := below_alloc w (.cells #[Value.int .u32 1] 30)
  have hone := rd_one w w.heap.size rfl
  by_cases h0 : k = 0
  · subst h0
    have HP := hide (powErr_ok (N := val l) (n := 0) (by rw [Nat.pow_zero]; decide))
    go_enter Try.func66, Try.ntmps66
    go_wp2_with fail
    refine (bits_any A n c l _ h (by omega)).mono ?_
    rintro e w' ⟨rfl, rfl⟩
    go_wp2
    go_ret2
    exact ⟨_, 1, 1, by rw [HP.out.1]; rfl, by rw [HP.out.2]; exact hone, hba⟩
  have hk0 : ((k : Int) == 0) = false := by simp; omega
  have hwb : nbits (val l) ≤ 32 * n := by
    refine nbits_le ?_
    have := val_lt_len h
    rwa [pow32] at this
  by_cases h1 : nbits (val l) = 1
  · have hv := nbits_one h1
    have HP : Hid (powErr (val l) (k : Int) = 0 ∧ powNum (val l) (k : Int) = 1) := by
      have h9 := powErr_ok (N := val l) (n := k) (by rw [hv, Nat.one_pow]; decide)
      exact ⟨h9.1, h9.2.trans (by rw [hv, Nat.one_pow])⟩
    have H1 := hide h1
    clear h1 hv
    go_enter Try.func66, Try.ntmps66
    go_wp2_with fail
    refine (bits_any A n c l _ h (by omega)).mono ?_
    rintro e w' ⟨rfl, rfl⟩
    rw [H1.out]
    go_wp2
    go_ret2
    exact ⟨_, 1, 1, by rw [HP.out.1]; rfl, by rw [HP.out.2]; exact hone, hba⟩
  by_cases h2 : nbits (val l) = 0
  · have hv : val l = 0 := nbits_eq_zero.1 h2
    have HP : Hid (powErr (val l) (k : Int) = 0 ∧ powNum (val l) (k : Int) = 0) := by
      have h9 := powErr_ok (N := val l) (n := k) (by rw [hv, Nat.zero_pow (by omega)]; decide)
      exact ⟨h9.1, h9.2.trans (by rw [hv, Nat.zero_pow (by omega)])⟩
    have H2 := hide h2
    clear h1 h2 hv
    go_enter Try.func66, Try.ntmps66
    go_wp2_with fail
    refine (bits_any A n c l _ h (by omega)).mono ?_
    rintro e w' ⟨rfl, rfl⟩
    rw [H2.out]
    go_wp2
    go_ret2
    exact ⟨none, 0, 0, by rw [HP.out.1]; rfl, by rw [HP.out.2]; exact Rd.nil _, Below.refl _ _⟩
  have hne1 : ((nbits (val l) : Int) == 1) = false := by simp; omega
  have hne0 : ((nbits (val l) : Int) == 0) = false := by simp; omega
  have hvne : val l ≠ 0 := fun h9 => h2 (by rw [h9]; rfl)
  by_cases hbig : 131072 < k ∨ 131072 ≤ (nbits (val l) - 1) * k
  · have HP := hide (powErr_big (N := val l) (n := k) (pow_big hvne (by
      rcases hbig with h9 | h9
      · have : 1 * k ≤ (nbits (val l) - 1) * k := Nat.mul_le_mul_right _ (by omega)
        omega
      · omega)))
    by_cases hb1 : 131072 < k
    · clear h0 h1 h2 hbig
      go_enter Try.func66, Try.ntmps66
      go_wp2_with fail
      refine (bits_any A n c l _ h (by omega)).mono ?_
      rintro e w' ⟨rfl, rfl⟩
      go_wp2
      go_ret2
      exact ⟨none, 0, 0, by rw [HP.out.1]; rfl, by rw [HP.out.2]; exact Rd.nil _, Below.refl _ _⟩
    · have hm : 131072 ≤ (nbits (val l) - 1) * k := by omega
      have hml : (nbits (val l) - 1) * k ≤ 32000000 * 131072 := Nat.mul_le_mul (by omega) (by omega)
      have hmi : ((nbits (val l) : Int) - 1) * (k : Int) = (((nbits (val l) - 1) * k : Nat) : Int) := by
        rw [Int.natCast_mul, Int.ofNat_sub (by omega)]; rfl
      have hm1 : (131072 : Int) ≤ ((nbits (val l) : Int) - 1) * (k : Int) := by omega
      have hm2 : ((nbits (val l) : Int) - 1) * (k : Int) ≤ 4194304000000 := by omega
      clear h0 h1 h2 hbig hm hml hmi
      go_enter Try.func66, Try.ntmps66
      go_wp2_with fail
      refine (bits_any A n c l _ h (by omega)).mono ?_
      rintro e w' ⟨rfl, rfl⟩
      go_wp2
      go_ret2
      exact ⟨none, 0, 0, by rw [HP.out.1]; rfl, by rw [HP.out.2]; exact Rd.nil _, Below.refl _ _⟩
  have hk : k ≤ 131072 := by omega
  have hm : (nbits (val l) - 1) * k < 131072 := by omega
  have hml : nbits (val l) * k ≤ 262144 := by
    have : nbits (val l) * k = (nbits (val l) - 1) * k + k := by
      obtain ⟨q, hq⟩ : ∃ q, nbits (val l) = q + 1 := ⟨nbits (val l) - 1, by omega⟩
      rw [hq, Nat.add_mul]; simp
    omega
  have hlen : (limbs (val l ^ k)).length ≤ 8192 := pow_len h0 (by omega)
  have hmi : ((nbits (val l) : Int) - 1) * (k : Int) = (((nbits (val l) - 1) * k : Nat) : Int) := by
    rw [Int.natCast_mul, Int.ofNat_sub (by omega)]; rfl
  have hm1 : ((nbits (val l) : Int) - 1) * (k : Int) < 131072 := by omega
  have hm2 : 0 ≤ ((nbits (val l) : Int) - 1) * (k : Int) := by omega
  have hk1 : 1 ≤ k := by omega
  have HLEN := hide hlen
  have HVNE := hide hvne
  clear h0 h1 h2 hbig hm hml hmi hlen hvne hneg
  go_enter Try.func66, Try.ntmps66
  go_wp2_with fail
  refine (bits_any A n c l _ h (by omega)).mono ?_
  rintro e w' ⟨rfl, rfl⟩
  go_wp2_with fail
  refine (short_lim _ _ _ _ _ (h.below hba)).mono ?_
  rintro e w1 ⟨q, rfl, hq, hqn, rfl⟩
  go_wp2_with fail
  go_loopw [1, 7, 8] (fun a b d wr => ∃ (j O S : Nat) (A1 : Option Addr) (n1 c1 : Nat) (A2 : Option Addr) (n2 c2 : Nat), 1 ≤ j ∧ j ≤ k ∧ a = .int .i64 (j : Int) ∧ b = .slice A1 n1 c1 ∧ d = .slice A2 n2 c2 ∧ Rd wr A1 n1 c1 (limbs O) ∧ Rd wr A2 n2 c2 (limbs S) ∧ O * S ^ j = val l ^ k ∧ Below w'.heap.size w' wr) (fun a _ _ _ => (intOf a).toNat)
  case atStart => exact ⟨k, 1, val l, _, 1, 1, _, q, q, hk1, Nat.le_refl _, rfl, rfl, rfl, rd_one w' _ rfl, hq, by rw [Nat.one_mul], hba⟩
  case round =>
    obtain ⟨j, O, S, A1, n1, c1, A2, n2, c2, hj1, hjk, rfl, rfl, rfl, hO, hSq, hpow, hS⟩ := hrel
    have hvpos : 0 < val l := Nat.pos_of_ne_zero HVNE.out
    have hpp : 0 < val l ^ k := Nat.pow_pos hvpos
    have hOpos : 0 < O := by
      rcases Nat.eq_zero_or_pos O with h9 | h9
      · rw [h9, Nat.zero_mul] at hpow; omega
      · exact h9
    have hSpos : 0 < S ^ j := by
      rcases Nat.eq_zero_or_pos (S ^ j) with h9 | h9
      · rw [h9, Nat.mul_zero] at hpow; omega
      · exact h9
    have hO8 : n1 ≤ 8192 := by
      have h9 : O ≤ val l ^ k := by
        have : O * 1 ≤ O * S ^ j := Nat.mul_le_mul_left _ hSpos
        omega
      have := length_limbs_mono h9
      have := HLEN.out
      have := hO.len
      omega
    have hS8 : n2 ≤ 8192 := by
      have h9 : S ≤ val l ^ k := by
        have h7 : S ≤ S ^ j := Nat.le_self_pow (by omega) S
        have : 1 * S ^ j ≤ O * S ^ j := Nat.mul_le_mul_right _ hOpos
        omega
      have := length_limbs_mono h9
      have := HLEN.out
      have := hSq.len
      omega
    have HPOW := hide hpow
    clear hpow hOpos hSpos hvpos hpp
    have hand := and_one j (by omega)
    rcases Nat.mod_two_eq_zero_or_one j with hodd | hodd
    · have HPE := hide (pow_even HPOW.out hodd)
      have hj2 : 1 ≤ j / 2 := by omega
      have hjn : ((j : Int) / 2 == 0) = false := by simp; omega
      rw [hodd] at hand
      clear hodd
      go_wp2_with fail
      refine (times_any _ _ _ _ _ _ _ _ _ hSq hSq (by omega) (by omega)).mono ?_
      rintro e w2 ⟨A3, n3, c3, rfl, h3, hb3⟩
      rw [val_limbs] at h3
      have hO2 := hO.below hb3
      have hS2 := below_step hb3 hS
      clear hO hSq hb3 hS
      go_wp2
      go_roundw
      case rel => exact ⟨j / 2, O, S * S, _, _, _, _, _, _, hj2, by omega, by go_num, rfl, rfl, hO2, h3, HPE.out, hS2⟩
      case measure => simp [intOf]; omega
    · rw [hodd] at hand
      have HPO := hide (pow_odd HPOW.out hodd)
      by_cases hj1 : j = 1
      · subst hj1
        have HF : Hid (O * S = val l ^ k) := by have := HPOW.out; rwa [Nat.pow_one] at this
        clear hodd
        go_wp2_with fail
        refine (times_any _ _ _ _ _ _ _ _ _ hO hSq (by omega) (by omega)).mono ?_
        rintro e w2 ⟨A3, n3, c3, rfl, h3, hb3⟩
        rw [val_limbs, val_limbs, HF.out] at h3
        have hS2 := below_step hb3 hS
        have hl3 := h3.len
        have hl3b := HLEN.out
        have hn3 : n3 ≤ 8192 := by omega
        by_cases hbig : 4096 < n3
        · have HP := hide (powErr_big (N := val l) (n := k) (by omega))
          clear hO hSq hb3 hS hl3 hl3b
          go_wp2
          go_ret2
          exact ⟨none, 0, 0, by rw [HP.out.1]; rfl, by rw [HP.out.2]; exact Rd.nil _, hS2⟩
        · have HP := hide (powErr_ok (N := val l) (n := k) (by omega))
          clear hO hSq hb3 hS hl3 hl3b
          go_wp2_with fail
          refine (trim_any _ _ _ _ _ h3 (by omega)).mono ?_
          rintro e w4 ⟨A4, n4, c4, rfl, h4, hb4⟩
          rw [val_limbs] at h4
          go_wp2
          go_ret2
          exact ⟨A4, n4, c4, by rw [HP.out.1]; rfl, by rw [HP.out.2]; exact h4, below_step hb4 hS2⟩
      · have hj2 : 1 ≤ j / 2 := by omega
        have hjn : ((j : Int) / 2 == 0) = false := by simp; omega
        clear hodd
        go_wp2_with fail
        refine (times_any _ _ _ _ _ _ _ _ _ hO hSq (by omega) (by omega)).mono ?_
        rintro e w2 ⟨A3, n3, c3, rfl, h3, hb3⟩
        rw [val_limbs, val_limbs] at h3
        have hSq2 := hSq.below hb3
        have hS2 := below_step hb3 hS
        clear hO hSq hb3 hS
        go_wp2_with fail
        refine (times_any _ _ _ _ _ _ _ _ _ hSq2 hSq2 (by omega) (by omega)).mono ?_
        rintro e w4 ⟨A4, n4, c4, rfl, h4, hb4⟩
        rw [val_limbs] at h4
        have h5 := h3.below hb4
        have hS4 := below_step hb4 hS2
        clear h3 hSq2 hb4 hS2
        go_wp2
        go_roundw
        case rel => exact ⟨j / 2, O * S, S * S, _, _, _, _, _, _, hj2, by omega, by go_num, rfl, rfl, h5, h4, HPO.out, hS4⟩
        case measure => simp [intOf]; omega
end Go.Proofs.Ytlomanhmpbapeaa
