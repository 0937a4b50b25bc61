/- Decimal digits, in plain Lean. -/
import Derived.Test.YtfggecdgnidhfaaDoorMath
namespace Go.Proofs.YtfggecdgnidhfaaDoor
/-- A digit's letter. -/
def dgt (x : Nat) : UInt8 := UInt8.ofNat (48 + x % 10)
theorem dgt_toNat (x : Nat) : (dgt x).toNat = 48 + x % 10 := by
  unfold dgt
  rw [UInt8.toNat_ofNat']
  omega
/-- The k lowest digits of N, the most significant first. -/
def dgs : Nat → Nat → List UInt8
  | 0, _ => []
  | k + 1, N => dgs k (N / 10) ++ [dgt N]
theorem dgs_len (k : Nat) : ∀ N, (dgs k N).length = k := by
  induction k with
  | zero => intro N; rfl
  | succ k ih => intro N; simp [dgs, ih]
theorem dgs_add (a b : Nat) : ∀ N, dgs (a + b) N = dgs a (N / 10 ^ b) ++ dgs b N := by
  induction b with
  | zero => intro N; simp [dgs]
  | succ b ih =>
    intro N
    rw [show a + (b + 1) = (a + b) + 1 by omega]
    simp only [dgs]
    rw [ih, Nat.div_div_eq_div_mul, ← List.append_assoc, show 10 * 10 ^ b = 10 ^ (b + 1) by rw [Nat.pow_succ, Nat.mul_comm]]
theorem dgs_mod (k : Nat) : ∀ N, dgs k (N % 10 ^ k) = dgs k N := by
  induction k with
  | zero => intro N; rfl
  | succ k ih =>
    intro N
    simp only [dgs]
    have h1 : N % 10 ^ (k + 1) / 10 = (N / 10) % 10 ^ k := by
      rw [Nat.pow_succ, Nat.mul_comm (10 ^ k) 10, Nat.mod_mul_right_div_self]
    have h2 : dgt (N % 10 ^ (k + 1)) = dgt N := by
      unfold dgt
      rw [Nat.mod_mod_of_dvd _ (by rw [Nat.pow_succ]; exact Nat.dvd_mul_left 10 _)]
    rw [h1, ih, h2]
theorem dgs_zero (k : Nat) : dgs k 0 = List.replicate k 48 := by
  induction k with
  | zero => rfl
  | succ k ih =>
    simp only [dgs, Nat.zero_div, ih]
    rw [List.replicate_succ']
    rfl
/-- Without the noughts in front. -/
def strip (l : List UInt8) : List UInt8 := l.dropWhile (· == 48)
theorem strip_rep (k : Nat) (l : List UInt8) : strip (List.replicate k 48 ++ l) = strip l := by
  induction k with
  | zero => rfl
  | succ k ih =>
    rw [List.replicate_succ, List.cons_append]
    unfold strip
    rw [List.dropWhile_cons, if_pos (by decide)]
    exact ih
theorem strip_app {l m : List UInt8} (h : strip l ≠ []) : strip (l ++ m) = strip l ++ m := by
  induction l with
  | nil => exact absurd rfl h
  | cons x l ih =>
    unfold strip at h ⊢
    simp only [List.cons_append, List.dropWhile_cons] at h ⊢
    split
    · rename_i h1
      rw [if_pos h1] at h
      exact ih h
    · rfl
theorem strip_dgs_ne {k N : Nat} (h : N ≠ 0) (hk : N < 10 ^ k) : strip (dgs k N) ≠ [] := by
  induction k generalizing N with
  | zero => simp at hk; omega
  | succ k ih =>
    simp only [dgs]
    by_cases h1 : N / 10 = 0
    · rw [h1, dgs_zero, strip_rep]
      have h2 : N % 10 ≠ 0 := by omega
      unfold strip
      rw [List.dropWhile_cons, if_neg]
      · exact List.cons_ne_nil _ _
      · intro h3
        have h4 : dgt N = 48 := by simpa using h3
        have h5 := congrArg UInt8.toNat h4
        rw [dgt_toNat] at h5
        have h6 : (48 : UInt8).toNat = 48 := rfl
        omega
    · have h2 := ih h1 (by rw [Nat.pow_succ] at hk; omega)
      rw [strip_app h2]
      intro h3
      exact h2 (List.append_eq_nil_iff.1 h3).1
/-- How many digits a number has. -/
def ndig : Nat → Nat → Nat
  | 0, _ => 0
  | f + 1, N => if N = 0 then 0 else ndig f (N / 10) + 1
theorem lt_pow_self10 (N : Nat) : N < 10 ^ N := by
  induction N with
  | zero => decide
  | succ N ih => rw [Nat.pow_succ]; omega
/-- A number's decimal text. -/
def dec (N : Nat) : List UInt8 := if N = 0 then [48] else strip (dgs N N)
theorem strip_wide {k m N : Nat} (hk : N < 10 ^ k) (hm : N < 10 ^ m) : strip (dgs k N) = strip (dgs m N) := by
  have key : ∀ a b, a ≤ b → N < 10 ^ a → strip (dgs b N) = strip (dgs a N) := by
    intro a b hab ha
    obtain ⟨c, rfl⟩ : ∃ c, b = c + a := ⟨b - a, by omega⟩
    rw [dgs_add, Nat.div_eq_of_lt ha, dgs_zero, strip_rep]
  rcases Nat.le_total k m with h | h
  · exact (key k m h hk).symm
  · exact key m k h hm
theorem dec_of {k N : Nat} (h : N ≠ 0) (hk : N < 10 ^ k) : dec N = strip (dgs k N) := by
  unfold dec
  rw [if_neg h]
  exact strip_wide (lt_pow_self10 N) hk
/-- A text's value. -/
def pval (l : List UInt8) : Nat := l.foldl (fun v c => v * 10 + (c.toNat - 48)) 0
theorem pval_app (l m : List UInt8) : pval (l ++ m) = m.foldl (fun v c => v * 10 + (c.toNat - 48)) (pval l) := by
  unfold pval
  rw [List.foldl_append]
theorem pval_snoc (l : List UInt8) (c : UInt8) : pval (l ++ [c]) = pval l * 10 + (c.toNat - 48) := by rw [pval_app]; rfl
theorem foldl_val (m : List UInt8) : ∀ v, m.foldl (fun v c => v * 10 + (c.toNat - 48)) v = v * 10 ^ m.length + pval m := by
  induction m with
  | nil => intro v; simp [pval]
  | cons c m ih =>
    intro v
    have h1 : pval (c :: m) = (c.toNat - 48) * 10 ^ m.length + pval m := by
      unfold pval
      simp only [List.foldl_cons]
      rw [ih]
      simp [pval]
    simp only [List.foldl_cons]
    rw [ih, h1, List.length_cons, Nat.pow_succ, Nat.add_mul, Nat.mul_comm (10 ^ m.length) 10, Nat.mul_assoc]
    omega
theorem pval_add (l m : List UInt8) : pval (l ++ m) = pval l * 10 ^ m.length + pval m := by rw [pval_app, foldl_val]
theorem pval_dgs (k : Nat) : ∀ N, pval (dgs k N) = N % 10 ^ k := by
  induction k with
  | zero => intro N; simp [dgs, pval]; omega
  | succ k ih =>
    intro N
    simp only [dgs]
    rw [pval_snoc, ih, dgt_toNat, Nat.pow_succ, Nat.mul_comm (10 ^ k) 10, Nat.mod_mul]
    omega
theorem pval_strip (l : List UInt8) : pval (strip l) = pval l := by
  induction l with
  | nil => rfl
  | cons x l ih =>
    unfold strip at ih ⊢
    rw [List.dropWhile_cons]
    split
    · rename_i h
      have hx : x = 48 := by simpa using h
      rw [ih, hx, show (48 : UInt8) :: l = [48] ++ l from rfl, pval_add]
      simp [pval]
    · rfl
theorem pval_dec (N : Nat) : pval (dec N) = N := by
  unfold dec
  split
  · rename_i h
    rw [h]; rfl
  · rw [pval_strip, pval_dgs, Nat.mod_eq_of_lt (lt_pow_self10 N)]
/-- A letter that is a digit. -/
def isDg (c : UInt8) : Prop := 48 ≤ c.toNat ∧ c.toNat ≤ 57
theorem dgt_isDg (x : Nat) : isDg (dgt x) := by
  unfold isDg
  rw [dgt_toNat]
  omega
theorem dgs_isDg (k : Nat) : ∀ N, ∀ c ∈ dgs k N, isDg c := by
  induction k with
  | zero => intro N c hc; cases hc
  | succ k ih =>
    intro N c hc
    simp only [dgs, List.mem_append, List.mem_singleton] at hc
    rcases hc with hc | rfl
    · exact ih _ _ hc
    · exact dgt_isDg N
theorem strip_sub {l : List UInt8} {c : UInt8} (h : c ∈ strip l) : c ∈ l := (List.dropWhile_sublist _).subset h
theorem dec_isDg (N : Nat) : ∀ c ∈ dec N, isDg c := by
  intro c hc
  unfold dec at hc
  split at hc
  · simp at hc
    subst hc
    exact ⟨by decide, by decide⟩
  · exact dgs_isDg _ _ _ (strip_sub hc)
theorem strip_len (l : List UInt8) : (strip l).length ≤ l.length := (List.dropWhile_sublist _).length_le
theorem dec_len {k N : Nat} (hk : N < 10 ^ k) (h0 : 0 < k) : (dec N).length ≤ k := by
  by_cases h : N = 0
  · unfold dec
    rw [if_pos h]
    exact h0
  · rw [dec_of h hk]
    have := strip_len (dgs k N)
    rwa [dgs_len] at this
/-- A well-formed text: digits, and no nought in front unless it is alone. -/
def wellD (l : List UInt8) : Prop := l ≠ [] ∧ ¬ (1 < l.length ∧ l.getD 0 0 = 48) ∧ ∀ c ∈ l, isDg c
theorem strip_head {l : List UInt8} {x : UInt8} {m : List UInt8} (h : strip l = x :: m) : x ≠ 48 := by
  induction l with
  | nil => cases h
  | cons y l ih =>
    unfold strip at ih h
    rw [List.dropWhile_cons] at h
    split at h
    · exact ih h
    · rename_i h1
      injection h with h2 h3
      subst h2
      simpa using h1
theorem dec_well (N : Nat) : wellD (dec N) := by
  refine ⟨?_, ?_, dec_isDg N⟩
  · unfold dec
    split
    · exact List.cons_ne_nil _ _
    · rename_i h
      exact strip_dgs_ne h (lt_pow_self10 N)
  · rintro ⟨h1, h2⟩
    unfold dec at h1 h2
    split at h1
    · simp at h1
    · rename_i h
      rw [if_neg h] at h2
      cases h3 : strip (dgs N N) with
      | nil => exact strip_dgs_ne h (lt_pow_self10 N) h3
      | cons x m =>
        rw [h3] at h2
        exact strip_head h3 (by simpa using h2)
/-- Digits are what their value says. -/
theorem dgs_pval : ∀ (l : List UInt8), (∀ c ∈ l, isDg c) → dgs l.length (pval l) = l := by
  intro l
  generalize hn : l.length = n
  induction n generalizing l with
  | zero =>
    intro _
    rw [List.eq_nil_of_length_eq_zero hn]
    rfl
  | succ n ih =>
    intro h
    obtain ⟨m, c, rfl⟩ : ∃ m c, l = m ++ [c] := by
      have hne : l ≠ [] := by intro e; rw [e] at hn; simp at hn
      exact ⟨l.dropLast, l.getLast hne, (List.dropLast_concat_getLast hne).symm⟩
    have hm : m.length = n := by simpa using hn
    have hc := h c (by simp)
    unfold isDg at hc
    simp only [dgs]
    rw [pval_snoc]
    have h1 : (pval m * 10 + (c.toNat - 48)) / 10 = pval m := by omega
    have h2 : dgt (pval m * 10 + (c.toNat - 48)) = c := by
      apply UInt8.toNat_inj.1
      rw [dgt_toNat]
      omega
    rw [h1, h2, ih m hm fun x hx => h x (by simp [hx])]
theorem pval_lt {l : List UInt8} (h : ∀ c ∈ l, isDg c) : pval l < 10 ^ l.length := by
  have h1 := congrArg pval (dgs_pval l h)
  rw [pval_dgs] at h1
  rw [← h1]
  exact Nat.mod_lt _ (Nat.pow_pos (by omega))
theorem strip_self {x : UInt8} {m : List UInt8} (h : x ≠ 48) : strip (x :: m) = x :: m := by
  unfold strip
  rw [List.dropWhile_cons, if_neg (by simpa using h)]
/-- The text of a well-formed text's value is that text. -/
theorem dec_pval {l : List UInt8} (h : wellD l) : dec (pval l) = l := by
  obtain ⟨h1, h2, h3⟩ := h
  cases l with
  | nil => exact absurd rfl h1
  | cons x m =>
    by_cases hx : x = 48
    · have hm : m = [] := by
        cases m with
        | nil => rfl
        | cons y m => exact absurd ⟨by simp, by simp [hx]⟩ h2
      subst hm hx
      rfl
    · have hne : pval (x :: m) ≠ 0 := by
        intro h4
        have h5 := dgs_pval _ h3
        rw [h4, dgs_zero] at h5
        simp only [List.length_cons, List.replicate_succ, List.cons.injEq] at h5
        exact hx h5.1.symm
      rw [dec_of hne (pval_lt h3), dgs_pval _ h3, strip_self hx]
theorem dgs_top (k X : Nat) : dgs (k + 1) X = dgt (X / 10 ^ k) :: dgs k X := by
  rw [show k + 1 = 1 + k by omega, dgs_add]
  rfl
theorem dec_dgs {t N : Nat} (ht : 0 < t) (h0 : N / 10 ^ t = 0) (h1 : 1 < t → N / 10 ^ (t - 1) ≠ 0) : dgs t N = dec N := by
  have hlt : N < 10 ^ t := by
    rcases Nat.lt_or_ge N (10 ^ t) with h | h
    · exact h
    · have := Nat.div_pos h (Nat.pow_pos (by decide))
      omega
  obtain ⟨s, rfl⟩ : ∃ s, t = s + 1 := ⟨t - 1, by omega⟩
  by_cases hN : N = 0
  · have hs : s = 0 := by
      rcases Nat.eq_zero_or_pos s with h | h
      · exact h
      · have := h1 (by omega)
        rw [hN, Nat.zero_div] at this
        exact absurd rfl this
    subst hs hN
    rfl
  · rw [dec_of hN hlt, dgs_top, strip_self]
    intro h2
    have h3 := congrArg UInt8.toNat h2
    rw [dgt_toNat] at h3
    have h4 : (48 : UInt8).toNat = 48 := rfl
    have h5 : N / 10 ^ s < 10 := by
      rw [Nat.div_lt_iff_lt_mul (Nat.pow_pos (by decide)), Nat.mul_comm, ← Nat.pow_succ]
      exact hlt
    have h6 : N / 10 ^ s ≠ 0 := by
      rcases Nat.eq_zero_or_pos s with h | h
      · subst h; simpa using hN
      · exact h1 (by omega)
    rw [h4] at h3
    generalize N / 10 ^ s = y at h3 h5 h6
    omega
end Go.Proofs.YtfggecdgnidhfaaDoor
