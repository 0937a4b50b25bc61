/- Plain arithmetic of the long division: limb by limb from the top, and the rest shifted back. -/
import Derived.Test.YtfggecdgnidhfaaDoorMath
namespace Go.Proofs.YtfggecdgnidhfaaDoor

/-! ### long division, limb by limb from the top -/
/-- 'ua' the dividend, 'uu' what is left of it, 'quo' the quotient's limbs from j on. -/
def LongAt (ua quo uu : List Nat) (V j : Nat) : Prop :=
  val (ua.drop j) = V * val (quo.drop j) + val (uu.drop j) ∧ val (uu.drop j) < V ∧ uu.take j = ua.take j ∧ uu.length = ua.length

theorem val_pow_drop (l : List Nat) (hl : Lims l) (i : Nat) : val (l.drop i) = val l / 4294967296 ^ i := by
  rcases Nat.lt_or_ge l.length i with h | h
  · rw [val_drop_ge l i (by omega), Nat.div_eq_of_lt]
    exact Nat.lt_of_lt_of_le (val_lt hl) (Nat.pow_le_pow_right (by omega) (by omega))
  · have h1 := val_take_drop l i h
    have h2 := val_lt_pow_of_take hl i
    rw [h1, Nat.add_mul_div_left _ _ (Nat.pow_pos (by omega)), Nat.div_eq_of_lt h2]
    omega

theorem longAt_start {ua quo : List Nat} {V j : Nat} (hq : quo.length = j) (hlt : val (ua.drop j) < V) : LongAt ua quo ua V j := by
  refine ⟨?_, hlt, rfl, rfl⟩
  rw [val_drop_ge quo j (by omega)]
  omega

theorem longAt_small {uu : List Nat} {V j : Nat} (hl : Lims uu) (hj : j < uu.length) (hlt : val (uu.drop (j + 1)) < V) : val (uu.drop j) < 4294967296 * V := by
  have h1 := val_drop uu j hj
  have h2 := hl.getD j
  omega

theorem long_zero {uu : List Nat} {V j k : Nat} (hl : Lims uu) (hlt : val (uu.drop (j + 1)) < V) (hV : V < 4294967296 ^ k) : val (uu.drop (j + k + 1)) = 0 := by
  have e : j + k + 1 = (j + 1) + k := by omega
  rw [e, val_pow_drop uu hl, Nat.pow_add, ← Nat.div_div_eq_div_mul, ← val_pow_drop uu hl]
  exact Nat.div_eq_of_lt (Nat.lt_trans hlt hV)
theorem window_after {uu : List Nat} {j k : Nat} (hz : val (uu.drop (j + k + 1)) = 0) : val ((uu.drop j).take (k + 1)) = val (uu.drop j) := by
  rcases Nat.lt_or_ge (uu.drop j).length (k + 1) with h | h
  · rw [List.take_of_length_le (Nat.le_of_lt h)]
  · have h5 := val_take_drop (uu.drop j) (k + 1) h
    have e : j + (k + 1) = j + k + 1 := by omega
    rw [List.drop_drop, e, hz, Nat.mul_zero, Nat.add_zero] at h5
    exact h5.symm
theorem long_eq {a b V q R x X r B : Nat} (h1 : a = x + B * b) (h2 : b = V * q + R) (h3 : X = x + B * R) (hm : V * (X / V) + X % V = X) (hr : r = X % V) : a = V * (X / V + B * q) + r := by
  rw [h1, h2, hr, Nat.mul_add V, Nat.mul_add B, Nat.mul_left_comm V]
  omega
theorem longAt_step {ua quo uu uu' : List Nat} {V j k : Nat} (h : LongAt ua quo uu V (j + 1)) (hl : Lims uu) (hj : j < uu.length) (hq : j < quo.length) (hV : V < 4294967296 ^ k)
    (h1 : uu'.take j = uu.take j) (h2 : uu'.drop (j + k + 1) = uu.drop (j + k + 1)) (h3 : uu'.length = uu.length)
    (h4 : val ((uu'.drop j).take (k + 1)) = val ((uu.drop j).take (k + 1)) % V) :
    LongAt ua (quo.set j (val ((uu.drop j).take (k + 1)) / V)) uu' V j ∧ val ((uu.drop j).take (k + 1)) / V < 4294967296 := by
  obtain ⟨e1, e2, e3, e4⟩ := h
  have hV0 : 0 < V := Nat.lt_of_le_of_lt (Nat.zero_le _) e2
  have hz := long_zero hl e2 hV
  have hz' : val (uu'.drop (j + k + 1)) = 0 := by rw [h2, hz]
  have hsm := longAt_small hl hj e2
  rw [window_after hz, window_after hz'] at h4
  rw [window_after hz]
  have ht : uu.take j = ua.take j := by
    have := congrArg (List.take j) e3
    rwa [List.take_take, List.take_take, Nat.min_eq_left (Nat.le_succ j)] at this
  have hlj : lim uu j = lim ua j := by
    have := congrArg (fun l => lim l j) e3
    simpa only [getD_take _ _ _ (Nat.lt_succ_self j)] using this
  refine ⟨⟨?_, by rw [h4]; exact Nat.mod_lt _ hV0, by rw [h1, ht], by rw [h3, e4]⟩, ?_⟩
  · have q1 := val_drop ua j (by rw [← e4]; exact hj)
    have q2 := val_drop uu j hj
    have q3 := val_drop (quo.set j (val (uu.drop j) / V)) j (by rw [List.length_set]; exact hq)
    rw [getD_set_eq _ _ _ hq, drop_set_succ] at q3
    rw [q3]
    rw [hlj] at q2
    exact long_eq q1 e1 q2 (Nat.div_add_mod _ _) h4
  · rw [Nat.div_lt_iff_lt_mul hV0]; exact hsm

theorem longAt_end {ua quo uu : List Nat} {V : Nat} (h : LongAt ua quo uu V 0) : val quo = val ua / V ∧ val uu = val ua % V := by
  obtain ⟨h1, h2, _, _⟩ := h
  exact divAt_end ⟨h1, by simpa using h2⟩

/-- The dividend's top limbs are less than the divisor. -/
theorem long_top {ua vv : List Nat} {N M T m j : Nat} (lu : Lims ua) (hua : val ua = N * T) (hv : val vv = M * T) (hT : 0 < T) (hM : 4294967296 ^ m ≤ M) (hN : N < 4294967296 ^ (j + m)) : val (ua.drop j) < val vv := by
  rw [val_pow_drop ua lu, hua, hv, Nat.div_lt_iff_lt_mul (Nat.pow_pos (by omega))]
  rw [Nat.pow_add] at hN
  have h1 : 4294967296 ^ j * 4294967296 ^ m ≤ M * 4294967296 ^ j := by rw [Nat.mul_comm]; exact Nat.mul_le_mul_right _ hM
  have h2 : N < M * 4294967296 ^ j := by omega
  have := Nat.mul_lt_mul_of_pos_right h2 hT
  rwa [Nat.mul_right_comm] at this

/-! ### the rest shifted back -/
/-- The limbs of N / 2 ^ t, i of them done. -/
def ShrAt (o : List Nat) (X i : Nat) : Prop := val (o.take i) = X % 4294967296 ^ i

theorem shr_limb {u : List Nat} (lu : Lims u) {t i : Nat} (ht : t < 32) (hi : i + 1 < u.length) :
    (lim u i + 4294967296 * lim u (i + 1)) / 2 ^ t % 4294967296 = val u / 2 ^ t / 4294967296 ^ i % 4294967296 := by
  have h1 : val u / 2 ^ t / 4294967296 ^ i = val (u.drop i) / 2 ^ t := by
    rw [val_pow_drop u lu, Nat.div_div_eq_div_mul, Nat.div_div_eq_div_mul, Nat.mul_comm]
  have h2 := val_drop u i (by omega)
  have h3 := val_drop u (i + 1) hi
  rw [h1, h2, h3]
  generalize val (u.drop (i + 1 + 1)) = z
  have h4 : 4294967296 = 2 ^ t * 2 ^ (32 - t) := by rw [← Nat.pow_add, show t + (32 - t) = 32 by omega]
  have e : lim u i + 4294967296 * (lim u (i + 1) + 4294967296 * z) = lim u i + 4294967296 * lim u (i + 1) + 2 ^ t * (4294967296 * (2 ^ (32 - t) * z)) := by
    have : 2 ^ t * (4294967296 * (2 ^ (32 - t) * z)) = 4294967296 * (2 ^ t * 2 ^ (32 - t) * z) := by
      rw [Nat.mul_left_comm, Nat.mul_assoc (2 ^ t)]
    rw [this, ← h4]
    omega
  rw [e, Nat.add_mul_div_left _ _ (Nat.pow_pos (by omega)), Nat.add_mul_mod_self_left]

theorem shrAt_zero (o : List Nat) (X : Nat) : ShrAt o X 0 := by simp [ShrAt, val_nil, Nat.mod_one]
theorem shrAt_step {o : List Nat} {X i x : Nat} (h : ShrAt o X i) (hi : i < o.length) (hx : x = X / 4294967296 ^ i % 4294967296) : ShrAt (o.set i x) X (i + 1) := by
  unfold ShrAt at *
  rw [val_take_set _ _ _ hi, h, hx, Nat.pow_succ, Nat.mod_mul]
theorem shrAt_end {o : List Nat} {X i : Nat} (h : ShrAt o X i) (hi : o.length ≤ i) (hX : X < 4294967296 ^ i) : val o = X := by
  unfold ShrAt at h
  rwa [val_take_all hi, Nat.mod_eq_of_lt hX] at h

theorem long_quo {N M T : Nat} (hT : 0 < T) : N * T / (M * T) = N / M := Nat.mul_div_mul_right _ _ hT
theorem long_rem {N M T : Nat} (hT : 0 < T) : N * T % (M * T) / T = N % M := by
  rw [Nat.mul_mod_mul_right, Nat.mul_div_cancel _ hT]

/-- A canonical number's top limb, and the length of the divisor as it is shifted. -/
theorem top_limbs {M : Nat} (hM : M ≠ 0) : lim (limbs M) ((limbs M).length - 1) ≠ 0 := by
  have hne : limbs M ≠ [] := by rw [Ne, limbs_eq_nil]; exact hM
  have := canon_limbs M hne
  rw [List.getLast_eq_getElem] at this
  rw [lim_eq, List.getElem?_eq_getElem (by have := List.length_pos_iff.2 hne; omega)]
  simpa using this
theorem shifted_len {M t k : Nat} (hk : (limbs M).length = k + 1) (ht : t + nbits (lim (limbs M) k) ≤ 32) (hM : M ≠ 0) : (limbs (M * 2 ^ t)).length = k + 1 := by
  have h1 := nbits_top (Lims.limbs M) hk (by have := top_limbs hM; rwa [hk] at this)
  rw [val_limbs] at h1
  have h2 := lt_nbits M
  have h3 : M * 2 ^ t < 2 ^ (32 * (k + 1)) := by
    refine Nat.lt_of_lt_of_le (Nat.mul_lt_mul_of_pos_right h2 (Nat.pow_pos (by omega))) ?_
    rw [← Nat.pow_add]
    exact Nat.pow_le_pow_right (by omega) (by omega)
  have h4 := length_limbs_le (n := M * 2 ^ t) (k := k + 1) (by rw [pow32]; exact h3)
  have h5 := length_limbs_mono (m := M) (n := M * 2 ^ t) (Nat.le_mul_of_pos_right _ (Nat.pow_pos (by omega)))
  omega
end Go.Proofs.YtfggecdgnidhfaaDoor
