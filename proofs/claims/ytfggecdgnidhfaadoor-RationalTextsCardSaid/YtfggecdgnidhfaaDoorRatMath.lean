/- Plain arithmetic of the rationals: the value of a sign, a numerator and a denominator; sums, products, signs, the order, the floor; the inequality of Cauchy. -/
import Derived.Test.YtfggecdgnidhfaaDoorMath
namespace Go.Proofs.YtfggecdgnidhfaaDoor

/-! ### rationals: the value of a sign, a numerator and a denominator -/
def sgn (s : Bool) (n : Nat) : Int := if s then -(n : Int) else (n : Int)
/-- The value; 0 where the denominator is 0. -/
def ratOf (s : Bool) (N D : Nat) : Rat := mkRat (sgn s N) D
/-- Is it below 0? -/
def qneg (q : Rat) : Bool := decide (q.num < 0)

theorem natAbs_sgn (s : Bool) (n : Nat) : (sgn s n).natAbs = n := by cases s <;> simp [sgn]
theorem sgn_zero (s : Bool) : sgn s 0 = 0 := by cases s <;> rfl
theorem sgn_neg (s : Bool) (n : Nat) : sgn (!s) n = -sgn s n := by cases s <;> simp [sgn]
theorem sgn_mul (s t : Bool) (m n : Nat) : sgn (s != t) (m * n) = sgn s m * sgn t n := by cases s <;> cases t <;> simp [sgn, Int.neg_mul, Int.mul_neg]
theorem sgn_eq_zero {s : Bool} {n : Nat} : sgn s n = 0 ↔ n = 0 := by cases s <;> simp [sgn]
theorem sgn_lt (s : Bool) {n : Nat} (h : n ≠ 0) : decide (sgn s n < 0) = s := by
  cases s <;> simp [sgn] <;> omega
theorem sgn_natAbs (z : Int) : sgn (decide (z < 0)) z.natAbs = z := by
  by_cases h : z < 0
  · rw [decide_eq_true h]; simp [sgn]; omega
  · rw [decide_eq_false h]; simp [sgn]; omega
theorem sgn_div (s : Bool) (n g : Nat) (h : g ∣ n) : sgn s n / (g : Int) = sgn s (n / g) := by
  obtain ⟨k, rfl⟩ := h
  rcases Nat.eq_zero_or_pos g with h0 | h0
  · subst h0; simp [sgn]
  · rw [Nat.mul_div_cancel_left _ h0]
    cases s
    · simp only [sgn]
      rw [Int.natCast_mul]
      exact Int.mul_ediv_cancel_left _ (by omega)
    · simp only [sgn, if_true]
      rw [Int.natCast_mul, ← Int.mul_neg]
      exact Int.mul_ediv_cancel_left _ (by omega)

theorem ratOf_num {s : Bool} {N D : Nat} (hD : D ≠ 0) : (ratOf s N D).num = sgn s (N / Nat.gcd N D) := by
  unfold ratOf
  rw [Rat.num_mkRat, if_neg hD, natAbs_sgn, Nat.gcd_comm]
  exact sgn_div s N _ (Nat.gcd_dvd_left N D)
theorem ratOf_den {s : Bool} {N D : Nat} (hD : D ≠ 0) : (ratOf s N D).den = D / Nat.gcd N D := by
  unfold ratOf
  rw [Rat.den_mkRat, if_neg hD, natAbs_sgn, Nat.gcd_comm]
theorem div_gcd_ne {N D : Nat} (hN : N ≠ 0) : N / Nat.gcd N D ≠ 0 := by
  have h := Nat.gcd_dvd_left N D
  have h0 := Nat.gcd_pos_of_pos_left D (Nat.pos_of_ne_zero hN)
  have := Nat.div_pos (Nat.le_of_dvd (Nat.pos_of_ne_zero hN) h) h0
  omega
theorem ratOf_neg_flag {s : Bool} {N D : Nat} (hN : N ≠ 0) (hD : D ≠ 0) : qneg (ratOf s N D) = s := by
  unfold qneg
  rw [ratOf_num hD]
  exact sgn_lt s (div_gcd_ne hN)
theorem ratOf_abs {s : Bool} {N D : Nat} (hD : D ≠ 0) : (ratOf s N D).num.natAbs = N / Nat.gcd N D := by rw [ratOf_num hD, natAbs_sgn]
theorem ratOf_zero_num (s : Bool) (D : Nat) : ratOf s 0 D = 0 := by unfold ratOf; rw [sgn_zero, Rat.zero_mkRat]
theorem ratOf_zero_den (s : Bool) (N : Nat) : ratOf s N 0 = 0 := by unfold ratOf; rw [Rat.mkRat_zero]
theorem ratOf_ne {s : Bool} {N D : Nat} (hN : N ≠ 0) (hD : D ≠ 0) : ratOf s N D ≠ 0 := by
  unfold ratOf
  rw [Rat.mkRat_ne_zero hD, Ne, sgn_eq_zero]
  exact hN
theorem ratOf_self (q : Rat) : ratOf (qneg q) q.num.natAbs q.den = q := by
  unfold ratOf qneg
  rw [sgn_natAbs, Rat.mkRat_self]
theorem ratOf_nil (s : Bool) (N : Nat) : ratOf s N 1 = ((sgn s N : Int) : Rat) := by
  unfold ratOf; exact Rat.ext (by rw [Rat.num_mkRat]; simp) (by rw [Rat.den_mkRat]; simp)

theorem ratOf_mul (s t : Bool) (m n d e : Nat) : ratOf (s != t) (m * n) (d * e) = ratOf s m d * ratOf t n e := by
  unfold ratOf; rw [sgn_mul, Rat.mkRat_mul_mkRat]
theorem ratOf_not (s : Bool) (N D : Nat) : ratOf (!s) N D = -ratOf s N D := by
  unfold ratOf; rw [sgn_neg, Rat.neg_mkRat]
theorem ratOf_add (s t : Bool) (m n : Nat) {d e : Nat} (hd : d ≠ 0) (he : e ≠ 0) : ratOf s m d + ratOf t n e = mkRat (sgn s (m * e) + sgn t (n * d)) (d * e) := by
  unfold ratOf
  rw [Rat.mkRat_add_mkRat _ _ hd he]
  congr 1
  cases s <;> cases t <;> simp [sgn, Int.neg_mul]
theorem ratOf_add_same (s : Bool) (m n : Nat) {d e : Nat} (hd : d ≠ 0) (he : e ≠ 0) : ratOf s (m * e + n * d) (d * e) = ratOf s m d + ratOf s n e := by
  rw [ratOf_add s s m n hd he]
  unfold ratOf
  congr 1
  cases s <;> simp [sgn]; omega
theorem ratOf_add_left (s : Bool) (m n : Nat) {d e : Nat} (hd : d ≠ 0) (he : e ≠ 0) (h : n * d ≤ m * e) : ratOf s (m * e - n * d) (d * e) = ratOf s m d + ratOf (!s) n e := by
  rw [ratOf_add s (!s) m n hd he]
  unfold ratOf
  congr 1
  cases s <;> simp [sgn] <;> omega
theorem ratOf_add_right (s : Bool) (m n : Nat) {d e : Nat} (hd : d ≠ 0) (he : e ≠ 0) (h : m * e ≤ n * d) : ratOf (!s) (n * d - m * e) (d * e) = ratOf s m d + ratOf (!s) n e := by
  rw [ratOf_add s (!s) m n hd he]
  unfold ratOf
  congr 1
  cases s <;> simp [sgn] <;> omega
theorem ratOf_inv {s : Bool} {N D : Nat} : ratOf s D N = (ratOf s N D)⁻¹ := by
  unfold ratOf
  rw [← Rat.divInt_ofNat, ← Rat.divInt_ofNat, Rat.inv_divInt]
  cases s
  · rfl
  · simp only [sgn, if_true]
    rw [Rat.divInt_neg']
theorem ratOf_pow (s : Bool) (N D n : Nat) : ratOf (s && decide (n % 2 ≠ 0)) (N ^ n) (D ^ n) = ratOf s N D ^ n := by
  induction n with
  | zero => simp [ratOf, sgn]; rfl
  | succ n ih =>
    rw [Rat.pow_succ, ← ih, Nat.pow_succ, Nat.pow_succ, ← ratOf_mul]
    congr 1
    have : (n + 1) % 2 = 1 - n % 2 := by omega
    rcases Nat.mod_two_eq_zero_or_one n with h | h <;> cases s <;> simp [this, h]

/-- The sign. -/
def qsign (q : Rat) : Int := if q = 0 then 0 else if qneg q then -1 else 1
theorem qneg_iff {q : Rat} : qneg q = true ↔ q < 0 := by
  unfold qneg
  rw [decide_eq_true_eq, Rat.lt_iff]
  simp
theorem qsign_ratOf_zero {s : Bool} {N D : Nat} (h : N = 0 ∨ D = 0) : qsign (ratOf s N D) = 0 := by
  rcases h with rfl | rfl
  · rw [ratOf_zero_num]; rfl
  · rw [ratOf_zero_den]; rfl
theorem qsign_ratOf {s : Bool} {N D : Nat} (hN : N ≠ 0) (hD : D ≠ 0) : qsign (ratOf s N D) = if s then -1 else 1 := by
  unfold qsign; rw [if_neg (ratOf_ne hN hD), ratOf_neg_flag hN hD]
theorem qsign_zero {q : Rat} : qsign q = 0 ↔ q = 0 := by
  unfold qsign
  by_cases h : q = 0
  · simp [h]
  · rw [if_neg h]
    constructor
    · intro h2; split at h2 <;> omega
    · intro h2; exact absurd h2 h
theorem qsign_pos {q : Rat} : 0 < qsign q ↔ 0 < q := by
  unfold qsign
  by_cases h : q = 0
  · simp [h]
  · rw [if_neg h]
    by_cases h2 : qneg q = true
    · rw [if_pos h2]
      have := qneg_iff.1 h2
      constructor
      · intro h3; omega
      · intro h3; exact absurd this (Rat.not_lt.2 (Rat.le_of_lt h3))
    · rw [if_neg h2]
      have := mt qneg_iff.2 h2
      constructor
      · intro _; exact Rat.lt_of_le_of_ne (Rat.not_lt.1 this) (Ne.symm h)
      · intro _; omega

/-- Small: numerator and denominator have at most K limbs. -/
def Small (K : Nat) (q : Rat) : Prop := q.num.natAbs < 4294967296 ^ K ∧ q.den < 4294967296 ^ K

/-! ### floor -/
theorem ediv_neg_up {N D : Nat} (hD : D ≠ 0) : -(N : Int) / (D : Int) = -((N / D + (if N % D = 0 then 0 else 1) : Nat) : Int) := by
  have h0 := Nat.div_add_mod N D
  have h1 := Nat.mod_lt N (Nat.pos_of_ne_zero hD)
  have h2 : (D : Int) * ((N / D : Nat) : Int) + ((N % D : Nat) : Int) = (N : Int) := by rw [← Int.natCast_mul, ← Int.natCast_add, h0]
  generalize N / D = q at *
  generalize N % D = r at *
  by_cases hr : r = 0
  · rw [if_pos hr]
    have := (Int.ediv_emod_unique (a := -(N : Int)) (b := (D : Int)) (q := -((q + 0 : Nat) : Int)) (r := 0) (by omega)).2 ⟨by rw [Int.mul_neg]; simp only [Nat.add_zero]; omega, by omega, by omega⟩
    exact this.1
  · rw [if_neg hr]
    have := (Int.ediv_emod_unique (a := -(N : Int)) (b := (D : Int)) (q := -((q + 1 : Nat) : Int)) (r := (D : Int) - r) (by omega)).2 ⟨by rw [Int.mul_neg, Int.natCast_add, Int.mul_add]; simp only [Int.natCast_one, Int.mul_one]; omega, by omega, by omega⟩
    exact this.1
theorem floor_val (q : Rat) : q.floor = sgn (qneg q) (q.num.natAbs / q.den + (if qneg q = true ∧ q.num.natAbs % q.den ≠ 0 then 1 else 0)) := by
  rw [Rat.floor_def]
  have hs : q.num = sgn (qneg q) q.num.natAbs := (sgn_natAbs q.num).symm
  cases h : qneg q
  · rw [h] at hs
    simp only [sgn] at hs ⊢
    rw [if_neg (by simp)]
    rw [hs]
    simp
  · rw [h] at hs
    simp only [sgn, if_true] at hs ⊢
    rw [hs, ediv_neg_up q.den_nz]
    simp
theorem ratOf_floor (q : Rat) : ratOf (qneg q) (q.num.natAbs / q.den + (if qneg q = true ∧ q.num.natAbs % q.den ≠ 0 then 1 else 0)) 1 = ((q.floor : Int) : Rat) := by
  rw [ratOf_nil, floor_val]

/-! ### lists -/
def sumQ : List Rat → Rat
  | [] => 0
  | a :: l => a + sumQ l
def prodQ : List Rat → Rat
  | [] => 1
  | a :: l => a * prodQ l
def dotQ : List Rat → List Rat → Rat
  | a :: l, b :: m => a * b + dotQ l m
  | _, _ => 0
theorem sumQ_append (l m : List Rat) : sumQ (l ++ m) = sumQ l + sumQ m := by
  induction l with
  | nil => simp [sumQ, Rat.zero_add]
  | cons a l ih => simp only [List.cons_append, sumQ, ih, Rat.add_assoc]
theorem prodQ_append (l m : List Rat) : prodQ (l ++ m) = prodQ l * prodQ m := by
  induction l with
  | nil => simp [prodQ]
  | cons a l ih => simp only [List.cons_append, prodQ, ih, Rat.mul_assoc]
theorem sumQ_take {l : List Rat} {k : Nat} (h : k < l.length) : sumQ (l.take (k + 1)) = sumQ (l.take k) + l.getD k 0 := by
  rw [List.take_succ_eq_append_getElem h, sumQ_append, List.getD_eq_getElem?_getD, List.getElem?_eq_getElem h]
  simp [sumQ, Rat.add_zero]
theorem prodQ_take {l : List Rat} {k : Nat} (h : k < l.length) : prodQ (l.take (k + 1)) = prodQ (l.take k) * l.getD k 0 := by
  rw [List.take_succ_eq_append_getElem h, prodQ_append, List.getD_eq_getElem?_getD, List.getElem?_eq_getElem h]
  simp [prodQ]
theorem dotQ_take {l m : List Rat} {k : Nat} (h : k < l.length) (h' : k < m.length) : dotQ (l.take (k + 1)) (m.take (k + 1)) = dotQ (l.take k) (m.take k) + l.getD k 0 * m.getD k 0 := by
  induction k generalizing l m with
  | zero =>
    obtain ⟨a, l, rfl⟩ := List.exists_cons_of_length_pos h
    obtain ⟨b, m, rfl⟩ := List.exists_cons_of_length_pos h'
    simp [dotQ, Rat.add_zero, Rat.zero_add]
  | succ k ih =>
    obtain ⟨a, l, rfl⟩ := List.exists_cons_of_length_pos (Nat.lt_of_le_of_lt (Nat.zero_le _) h)
    obtain ⟨b, m, rfl⟩ := List.exists_cons_of_length_pos (Nat.lt_of_le_of_lt (Nat.zero_le _) h')
    have := ih (l := l) (m := m) (by simpa using h) (by simpa using h')
    simp only [List.take_succ_cons, dotQ]
    rw [this, ← Rat.add_assoc]
    simp [List.getD_eq_getElem?_getD]
theorem sq_nonneg (x : Rat) : 0 ≤ x * x := by
  rcases Rat.le_total (a := 0) (b := x) with h | h
  · exact Rat.mul_nonneg h h
  · have h1 : 0 ≤ -x := by grind
    have := Rat.mul_nonneg h1 h1
    grind
theorem dotQ_nonneg (l : List Rat) : 0 ≤ dotQ l l := by
  induction l with
  | nil => exact Rat.le_refl
  | cons a l ih =>
    simp only [dotQ]
    have := sq_nonneg a
    grind
theorem cauchy_step {X Y Z a b : Rat} (h : X * X ≤ Y * Z) (hY : 0 ≤ Y) (hZ : 0 ≤ Z) : (a * b + X) * (a * b + X) ≤ (a * a + Y) * (b * b + Z) := by
  have key : 2 * X * a * b ≤ Y * (b * b) + Z * (a * a) := by
    by_cases h0 : Y = 0
    · subst h0
      have hX : X = 0 := by
        have : X * X ≤ 0 := by grind
        have h2 := sq_nonneg X
        have h3 : X * X = 0 := Rat.le_antisymm this h2
        rcases Rat.mul_eq_zero.1 h3 with h4 | h4 <;> exact h4
      subst hX
      have h1 := sq_nonneg a
      have := Rat.mul_nonneg hZ h1
      grind
    · have hY' : 0 < Y := Rat.lt_of_le_of_ne hY (Ne.symm h0)
      have h1 := sq_nonneg (Y * b - X * a)
      have h2 := sq_nonneg a
      have h3 : 0 ≤ (Y * Z - X * X) * (a * a) := Rat.mul_nonneg (by grind) h2
      have h4 : Y * (2 * X * a * b) ≤ Y * (Y * (b * b) + Z * (a * a)) := by grind
      exact Rat.le_of_mul_le_mul_left h4 hY'
  grind
theorem cauchy (l m : List Rat) (hlen : l.length = m.length) : dotQ l m * dotQ l m ≤ dotQ l l * dotQ m m := by
  induction l generalizing m with
  | nil =>
    obtain rfl : m = [] := List.eq_nil_of_length_eq_zero hlen.symm
    exact Rat.le_refl
  | cons a l ih =>
    obtain ⟨b, m, rfl⟩ := List.exists_cons_of_length_pos (by rw [← hlen]; simp)
    simp only [dotQ]
    exact cauchy_step (ih m (by simpa using hlen)) (dotQ_nonneg l) (dotQ_nonneg m)

/-! ### signs and the order -/
theorem qsign_of_neg {q : Rat} (h : q < 0) : qsign q = -1 := by
  unfold qsign
  rw [if_neg (Rat.ne_of_lt h), if_pos (qneg_iff.2 h)]
theorem qsign_of_pos {q : Rat} (h : 0 < q) : qsign q = 1 := by
  unfold qsign
  rw [if_neg (Rat.ne_of_gt h), if_neg (mt qneg_iff.1 (Rat.not_lt.2 (Rat.le_of_lt h)))]
theorem qsign_of_zero {q : Rat} (h : q = 0) : qsign q = 0 := if_pos h
theorem rat_cases (q : Rat) : q < 0 ∨ q = 0 ∨ 0 < q := by grind
theorem qsign_neg (q : Rat) : qsign (-q) = -qsign q := by
  rcases rat_cases q with h | h | h
  · rw [qsign_of_neg h, qsign_of_pos (by grind)]; rfl
  · rw [qsign_of_zero h, qsign_of_zero (by grind)]; rfl
  · rw [qsign_of_pos h, qsign_of_neg (by grind)]
theorem qsign_mul (p q : Rat) : qsign (p * q) = qsign p * qsign q := by
  rcases rat_cases p with h | h | h <;> rcases rat_cases q with k | k | k
  · rw [qsign_of_neg h, qsign_of_neg k, qsign_of_pos (by have := Rat.mul_pos (a := -p) (b := -q) (by grind) (by grind); grind)]; rfl
  · rw [qsign_of_zero k, qsign_of_zero (by grind)]; simp
  · rw [qsign_of_neg h, qsign_of_pos k, qsign_of_neg (by have := Rat.mul_pos (a := -p) (b := q) (by grind) k; grind)]; rfl
  · rw [qsign_of_zero h, qsign_of_zero (by grind)]; simp
  · rw [qsign_of_zero h, qsign_of_zero (by grind)]; simp
  · rw [qsign_of_zero h, qsign_of_zero (by grind)]; simp
  · rw [qsign_of_pos h, qsign_of_neg k, qsign_of_neg (by have := Rat.mul_pos (a := p) (b := -q) h (by grind); grind)]; rfl
  · rw [qsign_of_zero k, qsign_of_zero (by grind)]; simp
  · rw [qsign_of_pos h, qsign_of_pos k, qsign_of_pos (Rat.mul_pos h k)]; rfl
theorem qsign_bounds (q : Rat) : -1 ≤ qsign q ∧ qsign q ≤ 1 := by
  rcases rat_cases q with h | h | h
  · rw [qsign_of_neg h]; omega
  · rw [qsign_of_zero h]; omega
  · rw [qsign_of_pos h]; omega
theorem qsign_le {q : Rat} : qsign q ≤ 0 ↔ q ≤ 0 := by
  have := qsign_pos (q := q)
  constructor
  · intro h
    exact Rat.not_lt.1 (fun h2 => by have := this.2 h2; omega)
  · intro h
    have h2 := mt this.1 (Rat.not_lt.2 h)
    omega
/-- The comparison. -/
def cmpQ (a b : Rat) : Int := qsign (a - b)
theorem cmpQ_swap (a b : Rat) : cmpQ b a = -cmpQ a b := by
  unfold cmpQ
  rw [← qsign_neg]
  congr 1
  grind
theorem cmpQ_zero (a b : Rat) : cmpQ a b = 0 ↔ a = b := by
  unfold cmpQ
  rw [qsign_zero]
  constructor <;> intro h <;> grind
theorem cmpQ_beq (a b : Rat) : (cmpQ a b == 0) = decide (a = b) := by
  by_cases h : a = b
  · rw [decide_eq_true h, (cmpQ_zero a b).2 h]; rfl
  · rw [decide_eq_false h]
    have := mt (cmpQ_zero a b).1 h
    simpa using this
theorem cmpQ_add (a b c : Rat) : cmpQ (a + c) (b + c) = cmpQ a b := by
  unfold cmpQ
  congr 1
  grind
theorem cmpQ_mul (a b c : Rat) : cmpQ (a * c) (b * c) = cmpQ a b * qsign c := by
  unfold cmpQ
  rw [← qsign_mul]
  congr 1
  grind
theorem cmpQ_trans {a b c : Rat} (h : cmpQ a b ≤ 0) (h' : cmpQ b c ≤ 0) : cmpQ a c ≤ 0 := by
  unfold cmpQ at *
  rw [qsign_le] at *
  grind
theorem cmpQ_le {a b : Rat} : cmpQ a b ≤ 0 ↔ a ≤ b := by
  unfold cmpQ
  rw [qsign_le]
  constructor <;> intro h <;> grind
theorem cmpQ_gt {a b : Rat} : 0 < cmpQ a b ↔ b < a := by
  unfold cmpQ
  rw [qsign_pos]
  constructor <;> intro h <;> grind
theorem floor_le' (a : Rat) : cmpQ ((a.floor : Int) : Rat) a ≤ 0 := cmpQ_le.2 (Rat.floor_le a)
theorem floor_gt' (a : Rat) : 0 < cmpQ (((a.floor : Int) : Rat) + 1) a := by
  rw [cmpQ_gt]
  have := Rat.lt_floor_add_one a
  rwa [Rat.intCast_add] at this
theorem whole_floor {a : Rat} (hd : a.den = 1) : ((a.floor : Int) : Rat) = a := by
  have : a = ((a.num : Int) : Rat) := Rat.ext (by simp) (by simpa using hd)
  rw [this, Rat.floor_intCast]
end Go.Proofs.YtfggecdgnidhfaaDoor
