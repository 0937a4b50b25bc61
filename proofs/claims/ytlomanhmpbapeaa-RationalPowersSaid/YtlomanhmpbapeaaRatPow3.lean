/- The two Pows, every exponent. -/
import Derived.Test.YtlomanhmpbapeaaRatList
import Derived.Test.YtlomanhmpbapeaaRatPow2
import Derived.Test.YtlomanhmpbapeaaRatRpow2
namespace Go.Proofs.Ytlomanhmpbapeaa
open Go.RowKit

/-- One of the two powers is too big. -/
def bigP (q : Rat) (z : Int) : Prop := 4096 < (limbs (q.num.natAbs ^ z.natAbs)).length ∨ 4096 < (limbs (q.den ^ z.natAbs)).length
theorem den_pos_nat (q : Rat) : 1 ≤ q.den := Nat.pos_of_ne_zero q.den_nz
section
variable {w : World} {s : Bool} {A B : Option Addr} {n c m d : Nat} {q : Rat} {z : Int}
theorem num_ne {q : Rat} (h : q ≠ 0) : q.num.natAbs ≠ 0 := fun h9 => h (by
  have : q.num = 0 := by omega
  exact Rat.num_eq_zero.1 this)
theorem qpow_e8 (h : RawQ w s A n c B m d q 6) (h1 : -9223372036854775808 ≤ z) (h2 : z ≤ 9223372036854775807) (h0 : ¬ (z < 0 ∧ q = 0)) (hb : bigP q z) :
    Calls Try.prog 33 #[.agg #[.bool s, .slice A n c, .slice B m d], .int .i64 z] w (ErrQ 8 w) := by
  rcases (show z < 0 ∨ 0 ≤ z by omega) with hz | hz
  · have hq : q ≠ 0 := fun h9 => h0 ⟨hz, h9⟩
    obtain ⟨k, rfl⟩ : ∃ k : Nat, z = -(k : Int) := ⟨(-z).toNat, by omega⟩
    have e : (-(k : Int)).natAbs = k := by omega
    unfold bigP at hb
    rw [e] at hb
    by_cases hk : k ≤ 9223372036854775807
    · by_cases hd : 4096 < (limbs (q.den ^ k)).length
      · exact qpow_neg_big1 s A n c B m d q 6 w h (by omega) (by omega) k (by omega) hk hq hd
      · exact qpow_neg_big2 s A n c B m d q 6 w h (by omega) (by omega) k (by omega) hk hq (by omega) (by omega)
    · obtain rfl : k = 9223372036854775808 := by omega
      by_cases hd : 2 ≤ q.den
      · exact qpow_min_big1 s A n c B m d q 6 w h (by omega) (by omega) hq hd
      · have hd1 := den_pos_nat q
        refine qpow_min_big2 s A n c B m d q 6 w h (by omega) (by omega) hq (by omega) ?_
        rcases hb with h9 | h9
        · exact big_not h9
        · exact absurd (big_not h9) hd
  · obtain ⟨k, rfl⟩ := Int.eq_ofNat_of_zero_le hz
    unfold bigP at hb
    simp only [Int.natAbs_natCast] at hb
    by_cases hd : 4096 < (limbs (q.num.natAbs ^ k)).length
    · exact qpow_pos_big1 s A n c B m d q 6 w h (by omega) (by omega) k (by omega) hd
    · exact qpow_pos_big2 s A n c B m d q 6 w h (by omega) (by omega) k (by omega) (by omega) (by omega)
theorem rqpow_e8 (h : RawQ w s A n c B m d q 6) (h1 : -9223372036854775808 ≤ z) (h2 : z ≤ 9223372036854775807) (h0 : ¬ (z < 0 ∧ q = 0)) (hb : bigP q z) :
    Calls Try.prog 34 #[.agg #[.bool s, .slice A n c, .slice B m d], .int .i64 z] w (ErrQ 8 w) := by
  rcases (show z < 0 ∨ 0 ≤ z by omega) with hz | hz
  · have hq : q ≠ 0 := fun h9 => h0 ⟨hz, h9⟩
    obtain ⟨k, rfl⟩ : ∃ k : Nat, z = -(k : Int) := ⟨(-z).toNat, by omega⟩
    have e : (-(k : Int)).natAbs = k := by omega
    unfold bigP at hb
    rw [e] at hb
    by_cases hk : k ≤ 4611686018427387904
    · by_cases hd : 4096 < (limbs (q.den ^ k)).length
      · exact rqpow_neg_big1 s A n c B m d q 6 w h (by omega) (by omega) k (by omega) hk hq hd
      · exact rqpow_neg_big2 s A n c B m d q 6 w h (by omega) (by omega) k (by omega) hk hq (by omega) (by omega)
    · by_cases hd : 2 ≤ q.den
      · exact rqpow_far_big1 s A n c B m d q 6 w h (by omega) (by omega) k (by omega) (by omega) hq hd
      · refine rqpow_far_big2 s A n c B m d q 6 w h (by omega) (by omega) k (by omega) (by omega) hq (by omega) ?_
        rcases hb with h9 | h9
        · exact big_not h9
        · exact absurd (big_not h9) hd
  · obtain ⟨k, rfl⟩ := Int.eq_ofNat_of_zero_le hz
    unfold bigP at hb
    simp only [Int.natAbs_natCast] at hb
    by_cases hd : 4096 < (limbs (q.num.natAbs ^ k)).length
    · exact rqpow_pos_big1 s A n c B m d q 6 w h (by omega) (by omega) k (by omega) hd
    · exact rqpow_pos_big2 s A n c B m d q 6 w h (by omega) (by omega) k (by omega) (by omega) (by omega)
theorem one_of {q : Rat} {k : Nat} (hk : 131072 ≤ k) (hq : q ≠ 0) (hb : ¬ (4096 < (limbs (q.num.natAbs ^ k)).length ∨ 4096 < (limbs (q.den ^ k)).length)) : q.num.natAbs = 1 ∧ q.den = 1 := by
  have h1 : ¬ 2 ≤ q.num.natAbs := fun h => hb (.inl (big_two hk h))
  have h2 : ¬ 2 ≤ q.den := fun h => hb (.inr (big_two hk h))
  have h3 := num_ne hq
  have h4 := den_pos_nat q
  omega
theorem qpow_even {q : Rat} (hN : q.num.natAbs = 1) (hD : q.den = 1) (k : Nat) : q⁻¹ ^ (2 * k) = 1 := by
  have hq : q ≠ 0 := fun h => by rw [h] at hN; cases hN
  have h0 : q * q = 1 := by
    have h2 : q = ((q.num : Int) : Rat) := Rat.ext (by simp) (by simpa using hD)
    rcases (show q.num = 1 ∨ q.num = -1 by omega) with h3 | h3
    · rw [h2, h3, ← Rat.intCast_mul]; rfl
    · rw [h2, h3, ← Rat.intCast_mul]; rfl
  have h1 : q⁻¹ * q⁻¹ = 1 := by
    have hi := Rat.inv_mul_cancel q hq
    grind
  induction k with
  | zero => exact Rat.pow_zero _
  | succ k ih =>
    rw [show 2 * (k + 1) = 2 * k + 1 + 1 by omega, Rat.pow_succ, Rat.pow_succ, ih, Rat.one_mul, h1]
theorem qpow_ok130 (h : RawQ w s A n c B m d q 6) (h1 : -9223372036854775808 ≤ z) (h2 : z ≤ 9223372036854775807) (h0 : ¬ (z < 0 ∧ q = 0)) (hb : ¬ bigP q z) (l1 : (limbs (q.num.natAbs ^ z.natAbs)).length ≤ 130) (l2 : (limbs (q.den ^ z.natAbs)).length ≤ 130) :
    Calls Try.prog 33 #[.agg #[.bool s, .slice A n c, .slice B m d], .int .i64 z] w (RetQE (qpowV q z) 130 w) := by
  rcases (show z < 0 ∨ 0 ≤ z by omega) with hz | hz
  · have hq : q ≠ 0 := fun h9 => h0 ⟨hz, h9⟩
    obtain ⟨k, rfl⟩ : ∃ k : Nat, z = -(k : Int) := ⟨(-z).toNat, by omega⟩
    have e : (-(k : Int)).natAbs = k := by omega
    unfold bigP at hb
    rw [e] at hb l1 l2
    by_cases hk : k ≤ 9223372036854775807
    · exact qpow_neg s A n c B m d q 6 w h (by omega) (by omega) k (by omega) hk hq 130 (by omega) (by omega) l1 l2
    · obtain ⟨a1, a2⟩ := one_of (by omega) hq hb
      have hR : qpowV q (-(k : Int)) = 1 := by
        rw [qpowV_neg q (by omega), show k = 2 * 4611686018427387904 by omega]
        exact qpow_even a1 a2 _
      obtain rfl : k = 9223372036854775808 := by omega
      exact qpow_min s A n c B m d q 6 w h (by omega) (by omega) hq a1 a2 130 (by omega) _ hR
  · obtain ⟨k, rfl⟩ := Int.eq_ofNat_of_zero_le hz
    simp only [Int.natAbs_natCast] at l1 l2
    exact qpow_pos s A n c B m d q 6 w h (by omega) (by omega) k (by omega) 130 (by omega) (by omega) l1 l2
theorem rqpow_ok130 (h : RawQ w s A n c B m d q 6) (h1 : -9223372036854775808 ≤ z) (h2 : z ≤ 9223372036854775807) (h0 : ¬ (z < 0 ∧ q = 0)) (hb : ¬ bigP q z) (l1 : (limbs (q.num.natAbs ^ z.natAbs)).length ≤ 130) (l2 : (limbs (q.den ^ z.natAbs)).length ≤ 130) :
    Calls Try.prog 34 #[.agg #[.bool s, .slice A n c, .slice B m d], .int .i64 z] w (RetQE (qpowV q z) 130 w) := by
  rcases (show z < 0 ∨ 0 ≤ z by omega) with hz | hz
  · have hq : q ≠ 0 := fun h9 => h0 ⟨hz, h9⟩
    obtain ⟨k, rfl⟩ : ∃ k : Nat, z = -(k : Int) := ⟨(-z).toNat, by omega⟩
    have e : (-(k : Int)).natAbs = k := by omega
    unfold bigP at hb
    rw [e] at hb l1 l2
    by_cases hk : k ≤ 4611686018427387904
    · exact rqpow_neg s A n c B m d q 6 w h (by omega) (by omega) k (by omega) hk hq 130 (by omega) (by omega) l1 l2
    · obtain ⟨a1, a2⟩ := one_of (by omega) hq hb
      exact rqpow_far s A n c B m d q 6 w h (by omega) (by omega) k (by omega) (by omega) hq a1 a2 130 (by omega) (by omega)
  · obtain ⟨k, rfl⟩ := Int.eq_ofNat_of_zero_le hz
    simp only [Int.natAbs_natCast] at l1 l2
    exact rqpow_pos s A n c B m d q 6 w h (by omega) (by omega) k (by omega) 130 (by omega) (by omega) l1 l2
/-- What the law looks at. -/
def lookP (S : Nat) (z : Int) : Prop := 140000 < z.natAbs ∨ 32 * S * z.natAbs ≤ 4000
theorem pow_lens {N k e : Nat} (hN : N < 4294967296 ^ k ∨ N ≤ 1) (hb : ¬ 4096 < (limbs (N ^ e)).length) (hl : 140000 < e ∨ 32 * k * e ≤ 4000) : (limbs (N ^ e)).length ≤ 130 := by
  by_cases h1 : N ≤ 1
  · exact Nat.le_trans (small_one h1) (by omega)
  · have hN' := hN.resolve_right h1
    rcases hl with hl | hl
    · exact absurd (big_two (by omega) (by omega)) hb
    · refine length_limbs_le ?_
      have h2 : N ^ e ≤ (4294967296 ^ k) ^ e := Nat.pow_le_pow_left (Nat.le_of_lt hN') e
      have h3 : (4294967296 ^ k) ^ e ≤ 4294967296 ^ 125 := by
        rw [← Nat.pow_mul]
        refine Nat.pow_le_pow_right (by omega) ?_
        rw [Nat.mul_assoc] at hl
        omega
      have h4 : 4294967296 ^ 125 < 4294967296 ^ 130 := Nat.pow_lt_pow_right (by omega) (by omega)
      omega
theorem parts_small (h : RawQ w s A n c B m d q 6) : (q.num.natAbs < 4294967296 ^ n ∨ q.num.natAbs ≤ 1) ∧ (q.den < 4294967296 ^ m ∨ q.den ≤ 1) := by
  obtain ⟨⟨ln, ld, h1, h2, h3⟩, _, _⟩ := h
  by_cases hd : val ld = 0
  · have : q = 0 := by rw [← h3, hd, ratOf_zero_den]
    rw [this]
    exact ⟨.inr (by decide), .inr (by decide)⟩
  · rw [← h3, ratOf_abs hd, ratOf_den hd]
    exact ⟨.inl (Nat.lt_of_le_of_lt (Nat.div_le_self _ _) (val_lt_len h1)), .inl (Nat.lt_of_le_of_lt (Nat.div_le_self _ _) (val_lt_len h2))⟩
theorem look_lens (h : RawQ w s A n c B m d q 6) (hl : lookP (n + m) z) (hb : ¬ bigP q z) : (limbs (q.num.natAbs ^ z.natAbs)).length ≤ 130 ∧ (limbs (q.den ^ z.natAbs)).length ≤ 130 := by
  obtain ⟨p1, p2⟩ := parts_small h
  unfold bigP at hb
  unfold lookP at hl
  have m1 : 32 * n * z.natAbs ≤ 32 * (n + m) * z.natAbs := Nat.mul_le_mul_right _ (by omega)
  have m2 : 32 * m * z.natAbs ≤ 32 * (n + m) * z.natAbs := Nat.mul_le_mul_right _ (by omega)
  exact ⟨pow_lens p1 (fun h9 => hb (.inl h9)) (by omega), pow_lens p2 (fun h9 => hb (.inr h9)) (by omega)⟩
theorem same_nil (w : World) : Calls Try.prog 20 #[.agg #[.bool false, .slice none 0 0, .slice none 0 0], .agg #[.bool false, .slice none 0 0, .slice none 0 0]] w (Makes (.bool true) w) := by
  have := lsameq_any false none 0 0 [] none 0 0 [] false none 0 0 [] none 0 0 [] w (Rd.nil w) (Rd.nil w) (Rd.nil w) (Rd.nil w)
  simpa using this
end

end Go.Proofs.Ytlomanhmpbapeaa
