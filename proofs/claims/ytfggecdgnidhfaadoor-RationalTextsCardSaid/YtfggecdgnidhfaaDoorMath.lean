/-
  Plain arithmetic: the value of a list of 32-bit limbs, the canonical list of a number, the loops over limbs, the long division, powers, binomial coefficients. No program in sight.
-/
import Init.Data.Nat.Lemmas
namespace Go.Proofs.YtfggecdgnidhfaaDoor


/-- The base of the limbs. -/
def BB : Nat := 4294967296

/-- The value of a list of limbs, the least significant one first. -/
def val : List Nat → Nat
  | [] => 0
  | x :: l => x + 4294967296 * val l

theorem val_nil : val [] = 0 := rfl
theorem val_cons (x : Nat) (l : List Nat) : val (x :: l) = x + 4294967296 * val l := rfl

/-- The canonical limbs, with fuel. -/
def limbsF : Nat → Nat → List Nat
  | 0, _ => []
  | f + 1, n => if n = 0 then [] else (n % 4294967296) :: limbsF f (n / 4294967296)

/-- The canonical list of limbs of a number. -/
def limbs (n : Nat) : List Nat := limbsF n n

theorem limbsF_ge : ∀ (f g n : Nat), n ≤ f → n ≤ g → limbsF f n = limbsF g n
  | 0, 0, _, _, _ => rfl
  | 0, g + 1, n, h, _ => by
    have : n = 0 := by omega
    subst this; simp [limbsF]
  | f + 1, 0, n, _, h => by
    have : n = 0 := by omega
    subst this; simp [limbsF]
  | f + 1, g + 1, n, hf, hg => by
    unfold limbsF
    by_cases hn : n = 0
    · simp [hn]
    · rw [if_neg hn, if_neg hn, limbsF_ge f g (n / 4294967296) (by omega) (by omega)]

theorem limbs_zero : limbs 0 = [] := rfl
theorem limbs_pos {n : Nat} (h : n ≠ 0) : limbs n = (n % 4294967296) :: limbs (n / 4294967296) := by
  unfold limbs
  obtain ⟨m, rfl⟩ : ∃ m, n = m + 1 := ⟨n - 1, by omega⟩
  conv => lhs; unfold limbsF
  rw [if_neg h, limbsF_ge m ((m + 1) / 4294967296) _ (by omega) (Nat.le_refl _)]

/-- The limb with the index i, and 0 behind the last one. -/
def lim (l : List Nat) (i : Nat) : Nat := l.getD i 0
theorem lim_eq (l : List Nat) (i : Nat) : lim l i = l[i]?.getD 0 := List.getD_eq_getElem?_getD

/-- All limbs are below the base. -/
def Lims (l : List Nat) : Prop := ∀ x ∈ l, x < 4294967296

theorem Lims.nil : Lims [] := by intro x hx; simp at hx
theorem Lims.cons {x : Nat} {l : List Nat} (hx : x < 4294967296) (hl : Lims l) : Lims (x :: l) := by
  intro y hy; simp at hy; rcases hy with rfl | hy
  · exact hx
  · exact hl y hy
theorem Lims.head {x : Nat} {l : List Nat} (h : Lims (x :: l)) : x < 4294967296 := h x (by simp)
theorem Lims.tail {x : Nat} {l : List Nat} (h : Lims (x :: l)) : Lims l := fun y hy => h y (by simp [hy])
theorem Lims.take {l : List Nat} (h : Lims l) (n : Nat) : Lims (l.take n) := fun y hy => h y (List.mem_of_mem_take hy)
theorem Lims.drop {l : List Nat} (h : Lims l) (n : Nat) : Lims (l.drop n) := fun y hy => h y (List.mem_of_mem_drop hy)
theorem Lims.append {l m : List Nat} (h : Lims l) (k : Lims m) : Lims (l ++ m) := by
  intro y hy; rw [List.mem_append] at hy; rcases hy with hy | hy
  · exact h y hy
  · exact k y hy
theorem Lims.getD {l : List Nat} (h : Lims l) (i : Nat) : lim l i < 4294967296 := by
  rw [lim_eq]
  by_cases hi : i < l.length
  · rw [List.getElem?_eq_getElem hi]; exact h _ (List.getElem_mem hi)
  · rw [List.getElem?_eq_none (by omega)]; simp
theorem Lims.set {l : List Nat} (h : Lims l) (i : Nat) {x : Nat} (hx : x < 4294967296) : Lims (l.set i x) := by
  intro y hy
  rcases List.mem_or_eq_of_mem_set hy with h1 | h1
  · exact h y h1
  · omega
theorem Lims.replicate (n : Nat) : Lims (List.replicate n 0) := by
  intro y hy; rw [List.mem_replicate] at hy; omega

theorem lims_limbs : ∀ (f n : Nat), n ≤ f → Lims (limbs n)
  | 0, n, h => by
    have : n = 0 := by omega
    subst this; exact Lims.nil
  | f + 1, n, h => by
    by_cases hn : n = 0
    · subst hn; exact Lims.nil
    · rw [limbs_pos hn]; exact Lims.cons (by omega) (lims_limbs f _ (by omega))
theorem Lims.limbs (n : Nat) : Lims (limbs n) := lims_limbs n n (Nat.le_refl n)

theorem val_limbs_aux : ∀ (f n : Nat), n ≤ f → val (limbs n) = n
  | 0, n, h => by
    have : n = 0 := by omega
    subst this; rfl
  | f + 1, n, h => by
    by_cases hn : n = 0
    · subst hn; rfl
    · rw [limbs_pos hn, val_cons, val_limbs_aux f _ (by omega)]; omega
theorem val_limbs (n : Nat) : val (limbs n) = n := val_limbs_aux n n (Nat.le_refl n)

theorem limbs_inj {m n : Nat} : limbs m = limbs n ↔ m = n := by
  constructor
  · intro h; rw [← val_limbs m, h, val_limbs]
  · intro h; rw [h]

/-- Canonical: empty, or the last limb is not 0. -/
def Canon (l : List Nat) : Prop := ∀ h : l ≠ [], l.getLast h ≠ 0

theorem val_eq_zero_of_canon : ∀ {l : List Nat}, Canon l → val l = 0 → l = []
  | [], _, _ => rfl
  | x :: l, hc, hv => by
    rw [val_cons] at hv
    have h1 : val l = 0 := by omega
    have hl : Canon l := fun h => by
      have := hc (by simp); rwa [List.getLast_cons h] at this
    have := val_eq_zero_of_canon hl h1
    subst this
    have := hc (by simp)
    simp at this
    omega

theorem limbs_of_canon : ∀ {l : List Nat}, Lims l → Canon l → l = limbs (val l)
  | [], _, _ => rfl
  | x :: l, hl, hc => by
    have hl' : Canon l := fun h => by
      have := hc (by simp); rwa [List.getLast_cons h] at this
    have hx := hl.head
    have hne : val (x :: l) ≠ 0 := by
      intro h0
      have := val_eq_zero_of_canon hc h0
      simp at this
    rw [limbs_pos hne, val_cons]
    have e1 : (x + 4294967296 * val l) % 4294967296 = x := by omega
    have e2 : (x + 4294967296 * val l) / 4294967296 = val l := by omega
    rw [e1, e2, ← limbs_of_canon hl.tail hl']

theorem canon_limbs_aux : ∀ (f n : Nat), n ≤ f → Canon (limbs n)
  | 0, n, h => by
    have : n = 0 := by omega
    subst this; intro h; exact absurd rfl h
  | f + 1, n, h => by
    by_cases hn : n = 0
    · subst hn; intro h; exact absurd rfl h
    · intro hne
      simp only [limbs_pos hn]
      by_cases h2 : n / 4294967296 = 0
      · simp only [h2, limbs_zero, List.getLast_singleton]; omega
      · have h3 : limbs (n / 4294967296) ≠ [] := by rw [limbs_pos h2]; simp
        rw [List.getLast_cons h3]
        exact canon_limbs_aux f _ (by omega) h3
theorem canon_limbs (n : Nat) : Canon (limbs n) := canon_limbs_aux n n (Nat.le_refl n)

theorem limbs_eq_nil {n : Nat} : limbs n = [] ↔ n = 0 := by
  constructor
  · intro h; rw [← val_limbs n, h]; rfl
  · intro h; subst h; rfl

/-! ### take, drop, append, set -/
theorem val_append : ∀ (l m : List Nat), val (l ++ m) = val l + 4294967296 ^ l.length * val m
  | [], m => by simp [val_nil]
  | x :: l, m => by
    rw [List.cons_append, val_cons, val_cons, val_append l m, List.length_cons, Nat.pow_succ]
    rw [Nat.mul_add, ← Nat.mul_assoc, Nat.add_assoc, Nat.mul_comm (4294967296 ^ l.length) 4294967296]

theorem val_lt : ∀ {l : List Nat}, Lims l → val l < 4294967296 ^ l.length
  | [], _ => by simp [val_nil]
  | x :: l, h => by
    rw [val_cons, List.length_cons, Nat.pow_succ]
    have h1 := h.head
    have h2 := val_lt h.tail
    omega

theorem val_replicate (n : Nat) : val (List.replicate n 0) = 0 := by
  induction n with
  | zero => rfl
  | succ n ih => rw [List.replicate_succ, val_cons, ih]

theorem val_take_drop (l : List Nat) (n : Nat) (h : n ≤ l.length) : val l = val (l.take n) + 4294967296 ^ n * val (l.drop n) := by
  conv => lhs; rw [← List.take_append_drop n l]
  rw [val_append, List.length_take, Nat.min_eq_left h]

theorem val_take_succ (l : List Nat) (n : Nat) (h : n < l.length) : val (l.take (n + 1)) = val (l.take n) + 4294967296 ^ n * lim l n := by
  rw [List.take_succ_eq_append_getElem h, val_append, List.length_take, Nat.min_eq_left (by omega), val_cons, val_nil, lim_eq, List.getElem?_eq_getElem h]
  simp

theorem val_drop (l : List Nat) (n : Nat) (h : n < l.length) : val (l.drop n) = lim l n + 4294967296 * val (l.drop (n + 1)) := by
  rw [List.drop_eq_getElem_cons h, val_cons, lim_eq, List.getElem?_eq_getElem h]; rfl

theorem val_drop_ge (l : List Nat) (n : Nat) (h : l.length ≤ n) : val (l.drop n) = 0 := by
  rw [List.drop_eq_nil_of_le h]; rfl

theorem val_set (l : List Nat) (i x : Nat) (h : i < l.length) : val (l.set i x) + 4294967296 ^ i * lim l i = val l + 4294967296 ^ i * x := by
  have h1 := val_take_drop l i (by omega)
  have h2 := val_drop l i h
  have h3 := val_take_drop (l.set i x) i (by simp; omega)
  have h4 := val_drop (l.set i x) i (by simp; omega)
  have e1 : (l.set i x).take i = l.take i := by rw [List.take_set_of_le (by omega)]
  have e2 : (l.set i x).drop (i + 1) = l.drop (i + 1) := by rw [List.drop_set_of_lt (by omega)]
  have e3 : lim (l.set i x) i = x := by simp [lim_eq, h]
  rw [e1] at h3
  rw [e2, e3] at h4
  rw [h3, h1, h4, h2, Nat.mul_add, Nat.mul_add]
  omega

theorem take_set_succ (l : List Nat) (i x : Nat) (h : i < l.length) : (l.set i x).take (i + 1) = l.take i ++ [x] := by
  rw [List.take_succ_eq_append_getElem (by simpa using h)]
  simp [List.take_set_of_le]

theorem val_lt_pow_of_take {l : List Nat} (h : Lims l) (n : Nat) : val (l.take n) < 4294967296 ^ n := by
  have h1 := val_lt (h.take n)
  have h2 : (l.take n).length ≤ n := by simp; omega
  exact Nat.lt_of_lt_of_le h1 (Nat.pow_le_pow_right (by omega) h2)

/-! ### stripping zeros -/
/-- How many limbs stay when zero limbs at the end of the first n limbs are struck. -/
def keep (l : List Nat) : Nat → Nat
  | 0 => 0
  | n + 1 => if lim l n = 0 then keep l n else n + 1

theorem keep_le (l : List Nat) : ∀ n, keep l n ≤ n
  | 0 => Nat.le_refl 0
  | n + 1 => by
    unfold keep; split
    · have := keep_le l n; omega
    · exact Nat.le_refl _

theorem val_take_keep (l : List Nat) : ∀ n, n ≤ l.length → val (l.take (keep l n)) = val (l.take n)
  | 0, _ => rfl
  | n + 1, h => by
    unfold keep; split
    · rename_i h0
      rw [val_take_keep l n (by omega), val_take_succ l n (by omega), h0]; simp
    · rfl

theorem canon_take_keep (l : List Nat) : ∀ n, n ≤ l.length → Canon (l.take (keep l n))
  | 0, _ => by intro h; exact absurd rfl h
  | n + 1, h => by
    unfold keep; split
    · exact canon_take_keep l n (by omega)
    · rename_i h0
      intro hne
      rw [List.getLast_eq_getElem]
      have hl : (l.take (n + 1)).length = n + 1 := by simp; omega
      simp only [hl, List.getElem_take]
      rw [lim_eq, List.getElem?_eq_getElem (by omega)] at h0
      exact h0

theorem take_keep {l : List Nat} (hl : Lims l) : l.take (keep l l.length) = limbs (val l) := by
  have h1 := val_take_keep l l.length (Nat.le_refl _)
  rw [List.take_length] at h1
  rw [← h1]
  exact limbs_of_canon (hl.take _) (canon_take_keep l _ (Nat.le_refl _))

theorem keep_length {l : List Nat} (hl : Lims l) : keep l l.length = (limbs (val l)).length := by
  rw [← take_keep hl, List.length_take, Nat.min_eq_left (keep_le _ _)]

theorem length_limbs_le {n k : Nat} (h : n < 4294967296 ^ k) : (limbs n).length ≤ k := by
  induction k generalizing n with
  | zero =>
    have : n = 0 := by simpa using h
    subst this; simp [limbs_zero]
  | succ k ih =>
    by_cases hn : n = 0
    · subst hn; simp [limbs_zero]
    · rw [limbs_pos hn, List.length_cons]
      have : n / 4294967296 < 4294967296 ^ k := by
        rw [Nat.div_lt_iff_lt_mul (by omega)]; rw [Nat.pow_succ] at h; omega
      have := ih this; omega

theorem lt_pow_length (n : Nat) : n < 4294967296 ^ (limbs n).length := by
  have := val_lt (Lims.limbs n); rwa [val_limbs] at this

theorem pow_length_le {n : Nat} (h : n ≠ 0) : 4294967296 ^ ((limbs n).length - 1) ≤ n := by
  have hne : limbs n ≠ [] := by rw [Ne, limbs_eq_nil]; exact h
  have hc := canon_limbs n hne
  have hlen : (limbs n).length ≠ 0 := by simpa using hne
  have h1 := val_take_drop (limbs n) ((limbs n).length - 1) (by omega)
  have h2 := val_drop (limbs n) ((limbs n).length - 1) (by omega)
  rw [List.getLast_eq_getElem] at hc
  rw [lim_eq, List.getElem?_eq_getElem (by omega)] at h2
  simp only [Option.getD_some] at h2
  rw [val_limbs] at h1
  have h3 : 1 ≤ val (List.drop ((limbs n).length - 1) (limbs n)) := by omega
  calc 4294967296 ^ ((limbs n).length - 1) = 4294967296 ^ ((limbs n).length - 1) * 1 := by simp
    _ ≤ 4294967296 ^ ((limbs n).length - 1) * val (List.drop ((limbs n).length - 1) (limbs n)) := Nat.mul_le_mul_left _ h3
    _ ≤ n := by omega

theorem length_limbs_mono {m n : Nat} (h : m ≤ n) : (limbs m).length ≤ (limbs n).length :=
  length_limbs_le (Nat.lt_of_le_of_lt h (lt_pow_length n))

theorem limbs_val_of_canon {l : List Nat} (hl : Lims l) (hc : Canon l) : limbs (val l) = l := (limbs_of_canon hl hc).symm

theorem length_limbs_val_le {l : List Nat} (hl : Lims l) : (limbs (val l)).length ≤ l.length := length_limbs_le (val_lt hl)

/-! ### order, from the top -/
theorem val_take_lt_of {a b : List Nat} (ha : Lims a) {i : Nat} (hab : a.length = b.length) (hi : i < a.length) (hd : a.drop (i + 1) = b.drop (i + 1)) (h : lim a i < lim b i) : val a < val b := by
  have h1 := val_take_drop a i (by omega)
  have h2 := val_drop a i hi
  have h3 := val_take_drop b i (by omega)
  have h4 := val_drop b i (by omega)
  rw [hd] at h2
  have h5 := val_lt_pow_of_take ha i
  have h6 : 4294967296 ^ i * (val (a.drop i) + 1) ≤ 4294967296 ^ i * val (b.drop i) := Nat.mul_le_mul_left _ (by omega)
  rw [Nat.mul_add] at h6
  omega

theorem getD_limbs_zero (n : Nat) : lim (limbs n) 0 = n % 4294967296 := by
  by_cases h : n = 0
  · subst h; rfl
  · rw [limbs_pos h]; rfl


theorem getD_ge (l : List Nat) (i : Nat) (h : l.length ≤ i) : lim l i = 0 := by
  rw [lim_eq, List.getElem?_eq_none h]; rfl

theorem val_take_succ' (l : List Nat) (n : Nat) : val (l.take (n + 1)) = val (l.take n) + 4294967296 ^ n * lim l n := by
  by_cases h : n < l.length
  · exact val_take_succ l n h
  · rw [List.take_of_length_le (by omega), List.take_of_length_le (by omega), getD_ge l n (by omega)]; simp

theorem val_take_all {l : List Nat} {n : Nat} (h : l.length ≤ n) : val (l.take n) = val l := by rw [List.take_of_length_le h]

theorem val_take_set (l : List Nat) (i x : Nat) (h : i < l.length) : val ((l.set i x).take (i + 1)) = val (l.take i) + 4294967296 ^ i * x := by
  rw [take_set_succ l i x h, val_append, List.length_take, Nat.min_eq_left (by omega), val_cons, val_nil]; simp

theorem take_set_ge (l : List Nat) (i j x : Nat) (h : j ≤ i) : (l.set i x).take j = l.take j := by rw [List.take_set_of_le h]

theorem getD_set_ne (l : List Nat) (i j x : Nat) (h : i ≠ j) : lim (l.set i x) j = lim l j := by
  simp [lim_eq, h]

theorem getD_set_eq (l : List Nat) (i x : Nat) (h : i < l.length) : lim (l.set i x) i = x := by
  simp [lim_eq, h]

theorem getD_replicate (n i : Nat) : lim (List.replicate n 0) i = 0 := by
  rw [lim_eq, List.getElem?_replicate]; split <;> rfl

theorem getD_take (l : List Nat) (n i : Nat) (h : i < n) : lim (l.take n) i = lim l i := by
  simp [lim_eq, h]

theorem getD_drop (l : List Nat) (n i : Nat) : lim (l.drop n) i = lim l (n + i) := by
  simp [lim_eq, List.getElem?_drop]

/-- One step of an addition with carry. -/
theorem carry_step {P o c A s t : Nat} (h : o + P * c = A) (hs : s = t + c) : o + P * (s % 4294967296) + P * 4294967296 * (s / 4294967296) = A + P * t := by
  subst hs
  have e := Nat.div_add_mod (t + c) 4294967296
  have : P * (t + c) = P * (4294967296 * ((t + c) / 4294967296) + (t + c) % 4294967296) := by rw [e]
  rw [Nat.mul_add, Nat.mul_add, ← Nat.mul_assoc] at this
  omega

/-- The sum, step by step: the relation of the loop of an addition. -/
def SumAt (a b o : List Nat) (i c : Nat) : Prop := val (o.take i) + 4294967296 ^ i * c = val (a.take i) + val (b.take i)

theorem sumAt_zero (a b o : List Nat) : SumAt a b o 0 0 := by simp [SumAt, val_nil]

theorem sumAt_step {a b o : List Nat} {i c s : Nat} (h : SumAt a b o i c) (hi : i < o.length) (hs : s = lim a i + lim b i + c) :
    SumAt a b (o.set i (s % 4294967296)) (i + 1) (s / 4294967296) := by
  unfold SumAt at h ⊢
  rw [val_take_set _ _ _ hi, val_take_succ' a i, val_take_succ' b i, Nat.pow_succ]
  have := carry_step (P := 4294967296 ^ i) h hs
  rw [this, Nat.mul_add]
  omega

theorem sumAt_end {a b o : List Nat} {i c : Nat} (h : SumAt a b o i c) (ha : a.length = i) (hb : b.length ≤ i) (ho : o.length = i + 1) :
    val (o.set i c) = val a + val b := by
  unfold SumAt at h
  have h1 := val_take_set o i c (by omega)
  rw [List.take_of_length_le (by simp; omega)] at h1
  rw [h1, h, val_take_all (by omega), val_take_all hb]

/-- One step of a subtraction with borrow, over the naturals: out limb and new borrow. -/
def DiffAt (a b o : List Nat) (i c : Nat) : Prop := val (o.take i) + val (b.take i) = val (a.take i) + 4294967296 ^ i * c

theorem diffAt_zero (a b o : List Nat) : DiffAt a b o 0 0 := by simp [DiffAt, val_nil]

theorem diffAt_step {a b o : List Nat} {i c x c' : Nat} (h : DiffAt a b o i c) (hi : i < o.length) (hs : x + lim b i + c = lim a i + 4294967296 * c') :
    DiffAt a b (o.set i x) (i + 1) c' := by
  unfold DiffAt at h ⊢
  rw [val_take_set _ _ _ hi, val_take_succ' a i, val_take_succ' b i, Nat.pow_succ]
  have e : 4294967296 ^ i * (x + lim b i + c) = 4294967296 ^ i * (lim a i + 4294967296 * c') := by rw [hs]
  rw [Nat.mul_add, Nat.mul_add, Nat.mul_add, ← Nat.mul_assoc] at e
  omega

theorem diffAt_end {a b o : List Nat} {i c : Nat} (h : DiffAt a b o i c) (ha : a.length = i) (hb : val (b.take i) = val b) (ho : o.length = i) (hl : Lims o) (hle : val b ≤ val a) :
    val o = val a - val b := by
  unfold DiffAt at h
  rw [val_take_all (l := o) (by omega), hb, val_take_all (l := a) (by omega)] at h
  have h1 := val_lt hl
  rw [ho] at h1
  have : c = 0 := by
    rcases Nat.eq_zero_or_pos c with h0 | h0
    · exact h0
    · have : 4294967296 ^ i * 1 ≤ 4294967296 ^ i * c := Nat.mul_le_mul_left _ h0
      omega
  subst this
  omega

/-- The product: the inner loop's relation. 'o' is the row; 'V' its value when the inner loop began. -/
def MulAt (V x : Nat) (b o : List Nat) (i j c : Nat) : Prop := val o + 4294967296 ^ (i + j) * c = V + 4294967296 ^ i * (x * val (b.take j))

theorem mulAt_zero {V x : Nat} {b o : List Nat} {i : Nat} (h : val o = V) : MulAt V x b o i 0 0 := by simp [MulAt, val_nil, h]

theorem mulAt_step {V x : Nat} {b o : List Nat} {i j c s : Nat} (h : MulAt V x b o i j c) (hi : i + j < o.length) (hs : s = x * lim b j + lim o (i + j) + c) :
    MulAt V x b (o.set (i + j) (s % 4294967296)) i (j + 1) (s / 4294967296) := by
  unfold MulAt at h ⊢
  have h1 := val_set o (i + j) (s % 4294967296) hi
  rw [val_take_succ' b j, ← Nat.add_assoc, Nat.pow_succ]
  have e := Nat.div_add_mod s 4294967296
  have e2 : 4294967296 ^ (i + j) * (4294967296 * (s / 4294967296) + s % 4294967296) = 4294967296 ^ (i + j) * (x * lim b j + lim o (i + j) + c) := by rw [e, hs]
  rw [Nat.mul_add, Nat.mul_add, Nat.mul_add, ← Nat.mul_assoc] at e2
  have e3 : 4294967296 ^ i * (x * (val (b.take j) + 4294967296 ^ j * lim b j)) = 4294967296 ^ i * (x * val (b.take j)) + 4294967296 ^ (i + j) * (x * lim b j) := by
    rw [Nat.mul_add, Nat.mul_add, Nat.pow_add]
    congr 1
    simp only [Nat.mul_assoc, Nat.mul_left_comm]
  rw [e3]
  omega

theorem mulAt_end {V x : Nat} {b o : List Nat} {i c : Nat} (h : MulAt V x b o i b.length c) (hi : i + b.length < o.length) (h0 : lim o (i + b.length) = 0) :
    val (o.set (i + b.length) c) = V + 4294967296 ^ i * (x * val b) := by
  unfold MulAt at h
  rw [List.take_of_length_le (Nat.le_refl _)] at h
  have h1 := val_set o (i + b.length) c hi
  rw [h0] at h1
  omega

theorem mul_row {a : List Nat} {V i vb : Nat} (h : V = val (a.take i) * vb) : V + 4294967296 ^ i * (lim a i * vb) = val (a.take (i + 1)) * vb := by
  rw [val_take_succ' a i, Nat.add_mul, h, Nat.mul_assoc]

theorem u32_mul_le {x y z c : Nat} (hx : x < 4294967296) (hy : y < 4294967296) (hz : z < 4294967296) (hc : c < 4294967296) :
    x * y ≤ 18446744065119617025 ∧ x * y + z + c < 18446744073709551616 ∧ (x * y + z + c) / 4294967296 < 4294967296 := by
  have h : x * y ≤ 4294967295 * 4294967295 := Nat.mul_le_mul (by omega) (by omega)
  have : 4294967295 * 4294967295 = 18446744065119617025 := by decide
  omega

/-- Division by one limb, from the top: 'r' the remainder so far, 'o' the row. -/
def DivAt (a o : List Nat) (d i r : Nat) : Prop := val (a.drop i) = d * val (o.drop i) + r ∧ r < d

theorem divAt_start {a o : List Nat} {d n : Nat} (ha : a.length = n) (ho : o.length = n) (hd : 0 < d) : DivAt a o d n 0 := by
  refine ⟨?_, hd⟩
  rw [val_drop_ge a n (by omega), val_drop_ge o n (by omega)]; simp

theorem divAt_step {a o : List Nat} {d i r : Nat} (h : DivAt a o d (i + 1) r) (ha : i < a.length) (ho : i < o.length) (hl : Lims a) (hd : d < 4294967296) :
    DivAt a (o.set i ((r * 4294967296 + lim a i) / d)) d i ((r * 4294967296 + lim a i) % d) ∧ (r * 4294967296 + lim a i) / d < 4294967296 ∧ r * 4294967296 + lim a i < 18446744073709551616 := by
  obtain ⟨h1, h2⟩ := h
  have hx := hl.getD i
  have hd0 : 0 < d := by omega
  have hq : (r * 4294967296 + lim a i) / d < 4294967296 := by
    rw [Nat.div_lt_iff_lt_mul hd0]
    have : (r + 1) * 4294967296 ≤ d * 4294967296 := Nat.mul_le_mul_right _ h2
    rw [Nat.mul_comm 4294967296 d]
    omega
  have e0 : (o.set i ((r * 4294967296 + lim a i) / d)).drop (i + 1) = o.drop (i + 1) := by rw [List.drop_set_of_lt (by omega)]
  refine ⟨⟨?_, Nat.mod_lt _ hd0⟩, hq, by omega⟩
  have e1 := val_drop a i ha
  have e2 := val_drop (o.set i ((r * 4294967296 + lim a i) / d)) i (by simpa using ho)
  rw [getD_set_eq _ _ _ ho, e0] at e2
  rw [e1, e2, h1, Nat.mul_add d, Nat.mul_add 4294967296]
  have e := Nat.div_add_mod (r * 4294967296 + lim a i) d
  have e4 : d * (4294967296 * val (o.drop (i + 1))) = 4294967296 * (d * val (o.drop (i + 1))) := Nat.mul_left_comm _ _ _
  omega

theorem divAt_end {a o : List Nat} {d r : Nat} (h : DivAt a o d 0 r) : val o = val a / d ∧ r = val a % d := by
  obtain ⟨h1, h2⟩ := h
  simp only [List.drop_zero] at h1
  have hd : 0 < d := by omega
  rw [h1]
  constructor
  · rw [Nat.mul_add_div hd, Nat.div_eq_of_lt h2]; rfl
  · rw [Nat.mul_add_mod, Nat.mod_eq_of_lt h2]

/-! ### number of binary digits -/
/-- How many binary digits. -/
def nbits (n : Nat) : Nat := if n = 0 then 0 else Nat.log2 n + 1

theorem nbits_zero : nbits 0 = 0 := rfl
theorem nbits_eq {n k : Nat} (h1 : 2 ^ k ≤ n) (h2 : n < 2 ^ (k + 1)) : nbits n = k + 1 := by
  have h0 : n ≠ 0 := by
    have := Nat.two_pow_pos k
    omega
  unfold nbits
  rw [if_neg h0, (Nat.log2_eq_iff h0).2 ⟨h1, h2⟩]

theorem nbits_le {n k : Nat} (h : n < 2 ^ k) : nbits n ≤ k := by
  unfold nbits
  split
  · omega
  · rename_i h0
    have := (Nat.log2_lt h0).2 h
    omega

theorem lt_nbits (n : Nat) : n < 2 ^ nbits n := by
  unfold nbits
  split
  · omega
  · exact Nat.lt_log2_self

theorem nbits_le_iff {n k : Nat} : nbits n ≤ k ↔ n < 2 ^ k := by
  constructor
  · intro h
    exact Nat.lt_of_lt_of_le (lt_nbits n) (Nat.pow_le_pow_right (by omega) h)
  · exact nbits_le

theorem two_pow_nbits {n : Nat} (h : n ≠ 0) : 2 ^ (nbits n - 1) ≤ n := by
  unfold nbits; rw [if_neg h]; exact Nat.log2_self_le h

theorem nbits_eq_zero {n : Nat} : nbits n = 0 ↔ n = 0 := by
  unfold nbits; split <;> simp_all

theorem pow32 (k : Nat) : 4294967296 ^ k = 2 ^ (32 * k) := by rw [Nat.pow_mul]

/-- The digits of a number out of its top limb. -/
theorem nbits_top {l : List Nat} (hl : Lims l) {k : Nat} (hk : l.length = k + 1) (ht : lim l k ≠ 0) : nbits (val l) = 32 * k + nbits (lim l k) := by
  have h1 := val_take_drop l k (by omega)
  have h2 := val_drop l k (by omega)
  rw [val_drop_ge l (k + 1) (by omega)] at h2
  have h3 := val_lt_pow_of_take hl k
  rw [h2] at h1
  simp only [Nat.mul_zero, Nat.add_zero] at h1
  generalize lim l k = t at *
  have hn : nbits t ≠ 0 := by rw [Ne, nbits_eq_zero]; exact ht
  have h4 := two_pow_nbits ht
  have h5 := lt_nbits t
  rw [pow32] at h1 h3
  obtain ⟨m, hm⟩ : ∃ m, nbits t = m + 1 := ⟨nbits t - 1, by omega⟩
  rw [hm] at h4 h5 ⊢
  simp only [Nat.add_sub_cancel] at h4
  rw [← Nat.add_assoc]
  refine nbits_eq ?_ ?_
  · rw [h1, Nat.pow_add]
    have := Nat.mul_le_mul_left (2 ^ (32 * k)) h4
    omega
  · rw [h1, Nat.add_assoc, Nat.pow_add]
    have : 2 ^ (32 * k) * (t + 1) ≤ 2 ^ (32 * k) * 2 ^ (m + 1) := Nat.mul_le_mul_left _ h5
    rw [Nat.mul_add] at this
    omega

theorem nbits_half {n : Nat} (h : n ≠ 0) : nbits n = nbits (n / 2) + 1 := by
  have h1 := two_pow_nbits h
  have h2 := lt_nbits n
  have h0 : nbits n ≠ 0 := by rw [Ne, nbits_eq_zero]; exact h
  by_cases hh : n / 2 = 0
  · have : n = 1 := by omega
    subst this; rfl
  · obtain ⟨m, hm⟩ : ∃ m, nbits n = m + 1 := ⟨nbits n - 1, by omega⟩
    have hm0 : m ≠ 0 := by
      rintro rfl
      rw [hm] at h2
      omega
    obtain ⟨p, rfl⟩ : ∃ p, m = p + 1 := ⟨m - 1, by omega⟩
    rw [hm] at h1 h2 ⊢
    simp only [Nat.add_sub_cancel] at h1
    rw [Nat.pow_succ] at h1 h2
    rw [nbits_eq (k := p) (by omega) (by omega)]


/-- What is known of one step: u has k + 1 limbs, v has k ≥ 2, and the quotient is one limb. -/
structure StepOk (u v : List Nat) (k : Nat) : Prop where
  hk : 2 ≤ k
  hu : u.length = k + 1
  hv : v.length = k
  lu : Lims u
  lv : Lims v
  top : lim v (k - 1) ≠ 0
  small : val u < 4294967296 * val v

theorem val_top1 {v : List Nat} {k : Nat} (hv : v.length = k + 1) (lv : Lims v) :
    4294967296 ^ k * lim v k ≤ val v ∧ val v < 4294967296 ^ k * (lim v k + 1) := by
  have h1 := val_take_drop v k (by omega)
  have h2 := val_drop v k (by omega)
  rw [val_drop_ge v (k + 1) (by omega)] at h2
  rw [h2] at h1
  have h3 := val_lt_pow_of_take lv k
  simp only [Nat.mul_zero, Nat.add_zero] at h1
  rw [Nat.mul_add]
  omega

theorem val_top2 {v : List Nat} {k : Nat} (hv : v.length = k + 2) (lv : Lims v) :
    4294967296 ^ k * (lim v (k + 1) * 4294967296 + lim v k) ≤ val v ∧ val v < 4294967296 ^ k * (lim v (k + 1) * 4294967296 + lim v k + 1) := by
  have h1 := val_take_drop v k (by omega)
  have h2 := val_drop v k (by omega)
  have h2' := val_drop v (k + 1) (by omega)
  rw [val_drop_ge v (k + 2) (by omega)] at h2'
  rw [h2'] at h2
  rw [h2] at h1
  have h3 := val_lt_pow_of_take lv k
  have e : lim v k + 4294967296 * (lim v (k + 1) + 4294967296 * 0) = lim v (k + 1) * 4294967296 + lim v k := by omega
  rw [e] at h1
  rw [Nat.mul_add (4294967296 ^ k) _ 1]
  omega

theorem val_top3 {u : List Nat} {k : Nat} (hu : u.length = k + 3) (lu : Lims u) :
    4294967296 ^ k * ((lim u (k + 2) * 4294967296 + lim u (k + 1)) * 4294967296 + lim u k) ≤ val u ∧
    val u < 4294967296 ^ k * ((lim u (k + 2) * 4294967296 + lim u (k + 1)) * 4294967296 + lim u k + 1) := by
  have h1 := val_take_drop u k (by omega)
  have h2 := val_drop u k (by omega)
  have h2' := val_drop u (k + 1) (by omega)
  have h2'' := val_drop u (k + 2) (by omega)
  rw [val_drop_ge u (k + 3) (by omega)] at h2''
  rw [h2''] at h2'
  rw [h2'] at h2
  rw [h2] at h1
  have h3 := val_lt_pow_of_take lu k
  have e : lim u k + 4294967296 * (lim u (k + 1) + 4294967296 * (lim u (k + 2) + 4294967296 * 0)) = (lim u (k + 2) * 4294967296 + lim u (k + 1)) * 4294967296 + lim u k := by omega
  rw [e] at h1
  rw [Nat.mul_add (4294967296 ^ k) _ 1]
  omega

/-- The trial quotient's relation: q and r are quotient and remainder of the two top limbs by the top limb, as far as q has been lowered; the true quotient is at most q. -/
def TrialAt (u v : List Nat) (k q r : Nat) : Prop :=
  q * lim v (k - 1) + r = lim u k * 4294967296 + lim u (k - 1) ∧ val u / val v ≤ q

section
variable {u v : List Nat} {k q r : Nat}

theorem StepOk.vpos (h : StepOk u v k) : 0 < val v := by
  rcases Nat.eq_zero_or_pos (val v) with h0 | h0
  · have := h.small; omega
  · exact h0

theorem StepOk.topLe (h : StepOk u v k) : lim u k ≤ lim v (k - 1) := by
  obtain ⟨m, rfl⟩ : ∃ m, k = m + 1 := ⟨k - 1, by have := h.hk; omega⟩
  have h1 := (val_top1 (k := m + 1) h.hu h.lu).1
  have h2 := (val_top1 (k := m) h.hv h.lv).2
  have h3 := h.small
  simp only [Nat.add_sub_cancel]
  rcases Nat.lt_or_ge (lim v m) (lim u (m + 1)) with h4 | h4
  · have h5 : 4294967296 ^ (m + 1) * (lim v m + 1) ≤ 4294967296 ^ (m + 1) * lim u (m + 1) := Nat.mul_le_mul_left _ h4
    have e : 4294967296 ^ (m + 1) = 4294967296 * 4294967296 ^ m := by rw [Nat.pow_succ, Nat.mul_comm]
    have h6 : 4294967296 ^ (m + 1) * (lim v m + 1) = 4294967296 * (4294967296 ^ m * (lim v m + 1)) := by rw [e, Nat.mul_assoc]
    omega
  · exact h4

theorem trial_start (h : StepOk u v k) : TrialAt u v k ((lim u k * 4294967296 + lim u (k - 1)) / lim v (k - 1)) ((lim u k * 4294967296 + lim u (k - 1)) % lim v (k - 1)) := by
  have hk := h.hk
  obtain ⟨m, rfl⟩ : ∃ m, k = m + 1 := ⟨k - 1, by omega⟩
  simp only [TrialAt, Nat.add_sub_cancel]
  have hv0 : 0 < lim v m := Nat.pos_of_ne_zero (by simpa using h.top)
  refine ⟨by rw [Nat.mul_comm]; exact Nat.div_add_mod _ _, ?_⟩
  rw [Nat.le_div_iff_mul_le hv0]
  have h1 := (val_top1 (k := m) h.hv h.lv).1
  have h2 := (val_top2 (k := m) h.hu h.lu).2
  have h3 : val u / val v * val v ≤ val u := Nat.div_mul_le_self _ _
  have h4 : val u / val v * (4294967296 ^ m * lim v m) ≤ val u / val v * val v := Nat.mul_le_mul_left _ h1
  have h5 : 4294967296 ^ m * (val u / val v * lim v m) < 4294967296 ^ m * (lim u (m + 1) * 4294967296 + lim u m + 1) := by
    rw [Nat.mul_left_comm]; omega
  have h6 := Nat.lt_of_mul_lt_mul_left h5
  omega

theorem trial_bound (h : StepOk u v k) : val u / val v < 4294967296 := by
  rw [Nat.div_lt_iff_lt_mul h.vpos]; exact h.small

/-- The trial quotient is lowered: it was too great. -/
theorem trial_step (h : StepOk u v k) (ht : TrialAt u v k q r) (hc : 4294967296 ≤ q ∨ r * 4294967296 + lim u (k - 2) < q * lim v (k - 2)) :
    1 ≤ q ∧ TrialAt u v k (q - 1) (r + lim v (k - 1)) := by
  have hk := h.hk
  obtain ⟨m, rfl⟩ : ∃ m, k = m + 2 := ⟨k - 2, by omega⟩
  simp only [TrialAt, Nat.add_sub_cancel] at ht hc ⊢
  have e21 : m + 2 - 1 = m + 1 := by omega
  rw [e21] at ht ⊢
  obtain ⟨h1, h2⟩ := ht
  have hlt : val u / val v < q := by
    rcases hc with hc | hc
    · have := trial_bound h; omega
    · have h3 := (val_top2 (k := m) h.hv h.lv).1
      have h4 := (val_top3 (k := m) h.hu h.lu).2
      rw [Nat.div_lt_iff_lt_mul h.vpos]
      have h5 : q * (4294967296 ^ m * (lim v (m + 1) * 4294967296 + lim v m)) ≤ q * val v := Nat.mul_le_mul_left _ h3
      have h6 : (lim u (m + 2) * 4294967296 + lim u (m + 1)) * 4294967296 + lim u m + 1 ≤ q * (lim v (m + 1) * 4294967296 + lim v m) := by
        rw [← h1, Nat.mul_add, Nat.add_mul, Nat.mul_assoc]
        omega
      have h7 : 4294967296 ^ m * ((lim u (m + 2) * 4294967296 + lim u (m + 1)) * 4294967296 + lim u m + 1) ≤ 4294967296 ^ m * (q * (lim v (m + 1) * 4294967296 + lim v m)) := Nat.mul_le_mul_left _ h6
      rw [Nat.mul_left_comm] at h5
      omega
  generalize val u / val v = Q at *
  obtain ⟨p, rfl⟩ : ∃ p, q = p + 1 := ⟨q - 1, by omega⟩
  refine ⟨by omega, ?_, by omega⟩
  rw [Nat.add_mul] at h1
  simp only [Nat.add_sub_cancel]
  omega

/-- The trial quotient stands: it is the true one or one more. -/
theorem trial_end (h : StepOk u v k) (ht : TrialAt u v k q r) (hc : 4294967296 ≤ r ∨ q * lim v (k - 2) ≤ r * 4294967296 + lim u (k - 2)) (hq : r < 4294967296 → q < 4294967296) :
    q < 4294967296 ∧ (q = val u / val v ∨ q = val u / val v + 1) := by
  have hk := h.hk
  have htop := h.topLe
  obtain ⟨m, rfl⟩ : ∃ m, k = m + 2 := ⟨k - 2, by omega⟩
  simp only [TrialAt, Nat.add_sub_cancel] at ht hc
  have e21 : m + 2 - 1 = m + 1 := by omega
  rw [e21] at ht htop
  obtain ⟨h1, h2⟩ := ht
  have hu1 := h.lu.getD (m + 1)
  have hu0 := h.lu.getD m
  have hv0 := h.lv.getD m
  have hqB : q < 4294967296 := by
    rcases Nat.lt_or_ge r 4294967296 with hr | hr
    · exact hq hr
    · rcases Nat.lt_or_ge q 4294967296 with h3 | h3
      · exact h3
      · have h4 : 4294967296 * lim v (m + 1) ≤ q * lim v (m + 1) := Nat.mul_le_mul_right _ h3
        omega
  have h3 : q * (lim v (m + 1) * 4294967296 + lim v m) ≤ (lim u (m + 2) * 4294967296 + lim u (m + 1)) * 4294967296 + lim u m := by
    have h4 : q * lim v m ≤ r * 4294967296 + lim u m := by
      rcases hc with hc | hc
      · have : q * lim v m ≤ 4294967296 * 4294967296 := Nat.mul_le_mul (by omega) (by omega)
        have : 4294967296 * 4294967296 ≤ r * 4294967296 := Nat.mul_le_mul_right _ hc
        omega
      · exact hc
    rw [← h1, Nat.mul_add, Nat.add_mul, Nat.mul_assoc]
    omega
  have h4 := (val_top2 (k := m) h.hv h.lv)
  have h5 := (val_top3 (k := m) h.hu h.lu).1
  have hvt : lim v (m + 1) ≠ 0 := by have := h.top; rwa [e21] at this
  have h6 : q * val v ≤ q * (4294967296 ^ m * (lim v (m + 1) * 4294967296 + lim v m + 1)) := Nat.mul_le_mul_left _ (by omega)
  rw [Nat.mul_left_comm, Nat.mul_add q, Nat.mul_add (4294967296 ^ m)] at h6
  have h7 : 4294967296 ^ m * (q * (lim v (m + 1) * 4294967296 + lim v m)) ≤ val u := Nat.le_trans (Nat.mul_le_mul_left _ h3) h5
  have h8 : 4294967296 ^ m * (q * 1) < val v := by
    refine Nat.lt_of_lt_of_le ?_ h4.1
    refine Nat.mul_lt_mul_of_pos_left ?_ (Nat.pow_pos (by omega))
    have : 1 * 4294967296 ≤ lim v (m + 1) * 4294967296 := Nat.mul_le_mul_right _ (Nat.pos_of_ne_zero hvt)
    omega
  refine ⟨hqB, ?_⟩
  have h9 : q * val v < val u + val v := by omega
  have h10 : q - 1 ≤ val u / val v := by
    rw [Nat.le_div_iff_mul_le h.vpos, Nat.sub_mul]
    omega
  omega

end

/-! ### the subtraction of q * v from u, and the correction -/
/-- The relation of the subtracting loop: 'o' the row u as it stands, 'c' the product's carry, 'b' the borrow. -/
def SubMulAt (u v o : List Nat) (q i c b : Nat) : Prop :=
  val (o.take i) + q * val (v.take i) = val (u.take i) + 4294967296 ^ i * (c + b) ∧ o.drop i = u.drop i ∧ o.length = u.length ∧ c < 4294967296 ∧ b ≤ 1 ∧ Lims o

theorem subMul_zero (u v : List Nat) (q : Nat) (hl : Lims u) : SubMulAt u v u q 0 0 0 := by
  refine ⟨by simp [val_nil], rfl, rfl, by omega, by omega, hl⟩

theorem drop_set_succ (l : List Nat) (i x : Nat) : (l.set i x).drop (i + 1) = l.drop (i + 1) := by rw [List.drop_set_of_lt (by omega)]

theorem subMul_step {u v o : List Nat} {q i c b p x b' : Nat} (h : SubMulAt u v o q i c b) (hi : i < u.length) (hp : p = q * lim v i + c) (hq : q < 4294967296) (lv : Lims v)
    (hx : x + p % 4294967296 + b = lim u i + 4294967296 * b') (hx2 : x < 4294967296) (hb' : b' ≤ 1) :
    SubMulAt u v (o.set i x) q (i + 1) (p / 4294967296) b' := by
  obtain ⟨h1, h2, h3, h4, h5, h6⟩ := h
  refine ⟨?_, ?_, by simpa using h3, ?_, hb', h6.set i hx2⟩
  · rw [val_take_set _ _ _ (by omega), val_take_succ' v i, val_take_succ' u i, Nat.pow_succ, Nat.mul_add q]
    have e := Nat.div_add_mod p 4294967296
    have e1 : 4294967296 ^ i * (x + p % 4294967296 + b) = 4294967296 ^ i * (lim u i + 4294967296 * b') := by rw [hx]
    have e2 : 4294967296 ^ i * (4294967296 * (p / 4294967296) + p % 4294967296) = 4294967296 ^ i * (q * lim v i + c) := by rw [e, hp]
    rw [Nat.mul_left_comm q]
    simp only [Nat.mul_add, ← Nat.mul_assoc] at e1 e2 h1 ⊢
    omega
  · rw [drop_set_succ]
    have : (o.drop i).drop 1 = (u.drop i).drop 1 := by rw [h2]
    simpa [List.drop_drop] using this
  · have hv := lv.getD i
    rw [Nat.div_lt_iff_lt_mul (by omega), hp]
    have : q * lim v i ≤ 4294967295 * 4294967295 := Nat.mul_le_mul (by omega) (by omega)
    omega

/-- At the end of the loop: the row of k + 1 limbs, its last one not yet treated. -/
theorem subMul_end {u v o : List Nat} {q k c b : Nat} (h : SubMulAt u v o q k c b) (hs : StepOk u v k) :
    lim o k = lim u k ∧ val (o.take k) + 4294967296 ^ k * lim u k + q * val v = val u + 4294967296 ^ k * (c + b) ∧ val (o.take k) < 4294967296 ^ k := by
  obtain ⟨h1, h2, h3, h4, h5, h6⟩ := h
  have e1 : lim o k = lim u k := by
    have := congrArg (fun l => lim l 0) h2
    simpa [getD_drop] using this
  rw [val_take_all (l := v) (by have := hs.hv; omega)] at h1
  have h7 := val_take_succ' u k
  rw [val_take_all (l := u) (by have := hs.hu; omega)] at h7
  refine ⟨e1, by omega, val_lt_pow_of_take h6 k⟩

/-- The trial quotient was right: nothing is borrowed. -/
theorem subMul_right {u v o : List Nat} {q k c b : Nat} (h : SubMulAt u v o q k c b) (hs : StepOk u v k) (hq : q = val u / val v) :
    c + b ≤ lim u k ∧ val (o.set k (lim u k - (c + b))) = val u % val v := by
  obtain ⟨e1, h1, h2⟩ := subMul_end h hs
  have hm := Nat.div_add_mod (val u) (val v)
  have hml := Nat.mod_lt (val u) hs.vpos
  subst hq
  rw [Nat.mul_comm (val v)] at hm
  have hlen : o.length = k + 1 := by have := h.2.2.1; have := hs.hu; omega
  have hcb : c + b ≤ lim u k := by
    rcases Nat.lt_or_ge (lim u k) (c + b) with h3 | h3
    · have : 4294967296 ^ k * (lim u k + 1) ≤ 4294967296 ^ k * (c + b) := Nat.mul_le_mul_left _ h3
      rw [Nat.mul_add] at this
      omega
    · exact h3
  refine ⟨hcb, ?_⟩
  have h4 := val_take_set o k (lim u k - (c + b)) (by omega)
  rw [val_take_all (by simp; omega)] at h4
  rw [h4]
  obtain ⟨d, hd⟩ : ∃ d, lim u k = d + (c + b) := ⟨lim u k - (c + b), by omega⟩
  rw [hd] at h1 ⊢
  rw [Nat.mul_add] at h1
  simp only [Nat.add_sub_cancel]
  omega

/-- The trial quotient was one too great: one is borrowed. -/
theorem subMul_over {u v o : List Nat} {q k c b : Nat} (h : SubMulAt u v o q k c b) (hs : StepOk u v k) (hq : q = val u / val v + 1) :
    c + b = lim u k + 1 ∧ val (o.take k) + val v = val u % val v + 4294967296 ^ k := by
  obtain ⟨e1, h1, h2⟩ := subMul_end h hs
  have hm := Nat.div_add_mod (val u) (val v)
  have hml := Nat.mod_lt (val u) hs.vpos
  subst hq
  rw [Nat.mul_comm (val v)] at hm
  rw [Nat.add_mul] at h1
  have hvl : val v < 4294967296 ^ k := by have := val_lt hs.lv; rwa [hs.hv] at this
  have h3 : lim u k < c + b := by
    rcases Nat.lt_or_ge (lim u k) (c + b) with h3 | h3
    · exact h3
    · have : 4294967296 ^ k * (c + b) ≤ 4294967296 ^ k * lim u k := Nat.mul_le_mul_left _ h3
      omega
  have h4 : c + b = lim u k + 1 := by
    rcases Nat.lt_or_ge (lim u k + 1) (c + b) with h5 | h5
    · have : 4294967296 ^ k * (lim u k + 2) ≤ 4294967296 ^ k * (c + b) := Nat.mul_le_mul_left _ h5
      rw [Nat.mul_add] at this
      omega
    · omega
  refine ⟨h4, ?_⟩
  rw [h4, Nat.mul_add] at h1
  omega

/-- v is added back: the relation of the loop is the sum's; its end. -/
theorem addBack_end {u v o o' : List Nat} {k c : Nat} (hs : StepOk u v k) (ho : val (o.take k) + val v = val u % val v + 4294967296 ^ k) (h : val (o'.take k) + 4294967296 ^ k * c = val (o.take k) + val v) (hl : Lims o')
    (hc : c ≤ 1) (hlen : o'.length = k + 1) : c = 1 ∧ val (o'.set k 0) = val u % val v := by
  have hml := Nat.mod_lt (val u) hs.vpos
  have hvl : val v < 4294967296 ^ k := by have := val_lt hs.lv; rwa [hs.hv] at this
  have h2 := val_lt_pow_of_take hl k
  have hc1 : c = 1 := by
    rcases Nat.eq_zero_or_pos c with h0 | h0
    · subst h0; omega
    · omega
  subst hc1
  refine ⟨rfl, ?_⟩
  have h4 := val_take_set o' k 0 (by omega)
  rw [val_take_all (by simp; omega)] at h4
  omega


/-! ### division by shifted subtraction -/
def SubDivAt (a b quo rem i : Nat) : Prop := a = quo * b + rem ∧ rem < b * 2 ^ i

theorem subDiv_start {a b n : Nat} (hb : b ≠ 0) (h : nbits a ≤ nbits b + n) : SubDivAt a b 0 a (n + 1) := by
  refine ⟨by omega, ?_⟩
  have h1 := lt_nbits a
  have h2 := two_pow_nbits hb
  have h0 : nbits b ≠ 0 := by rw [Ne, nbits_eq_zero]; exact hb
  have h3 : 2 ^ (nbits b - 1) * 2 ^ (n + 1) ≤ b * 2 ^ (n + 1) := Nat.mul_le_mul_right _ h2
  rw [← Nat.pow_add] at h3
  have h4 : 2 ^ nbits a ≤ 2 ^ (nbits b - 1 + (n + 1)) := Nat.pow_le_pow_right (by omega) (by omega)
  omega

theorem subDiv_small {a b : Nat} (h : nbits a < nbits b) : SubDivAt a b 0 a 0 := by
  refine ⟨by omega, ?_⟩
  have hb : b ≠ 0 := by rintro rfl; rw [nbits_zero] at h; omega
  have h1 := lt_nbits a
  have h2 := two_pow_nbits hb
  have h3 : 2 ^ nbits a ≤ 2 ^ (nbits b - 1) := Nat.pow_le_pow_right (by omega) (by omega)
  omega

theorem subDiv_yes {a b quo rem i : Nat} (h : SubDivAt a b quo rem (i + 1)) (hc : b * 2 ^ i ≤ rem) : SubDivAt a b (quo + 2 ^ i) (rem - b * 2 ^ i) i := by
  obtain ⟨h1, h2⟩ := h
  rw [Nat.pow_succ] at h2
  refine ⟨?_, ?_⟩
  · rw [Nat.add_mul, Nat.mul_comm (2 ^ i) b]; omega
  · rw [← Nat.mul_assoc] at h2; omega

theorem subDiv_no {a b quo rem i : Nat} (h : SubDivAt a b quo rem (i + 1)) (hc : rem < b * 2 ^ i) : SubDivAt a b quo rem i := ⟨h.1, hc⟩

theorem subDiv_end {a b quo rem : Nat} (h : SubDivAt a b quo rem 0) : quo = a / b ∧ rem = a % b := by
  obtain ⟨h1, h2⟩ := h
  simp only [Nat.pow_zero, Nat.mul_one] at h2
  have hb : 0 < b := by omega
  subst h1
  constructor
  · rw [Nat.mul_comm, Nat.mul_add_div hb, Nat.div_eq_of_lt h2]; rfl
  · rw [Nat.mul_comm, Nat.mul_add_mod, Nat.mod_eq_of_lt h2]

/-! ### powers -/
theorem pow_odd {out sq n t : Nat} (h : out * sq ^ n = t) (ho : n % 2 = 1) : (out * sq) * (sq * sq) ^ (n / 2) = t := by
  have e : n = 2 * (n / 2) + 1 := by omega
  conv at h => lhs; rw [e, Nat.pow_succ, Nat.pow_mul]
  rw [← Nat.pow_two, ← h, Nat.mul_assoc, Nat.mul_comm sq]
theorem pow_even {out sq n t : Nat} (h : out * sq ^ n = t) (ho : n % 2 = 0) : out * (sq * sq) ^ (n / 2) = t := by
  have e : n = 2 * (n / 2) := by omega
  conv at h => lhs; rw [e, Nat.pow_mul]
  rw [← Nat.pow_two]; exact h

theorem pow_lt_of {a n k : Nat} (h : nbits a * n ≤ k) (hn : n ≠ 0) : a ^ n < 2 ^ k := by
  have h1 := lt_nbits a
  have h2 : a ^ n < (2 ^ nbits a) ^ n := Nat.pow_lt_pow_left h1 hn
  rw [← Nat.pow_mul] at h2
  exact Nat.lt_of_lt_of_le h2 (Nat.pow_le_pow_right (by omega) h)

theorem pow_ge_of {a n k : Nat} (ha : a ≠ 0) (h : k ≤ (nbits a - 1) * n) : 2 ^ k ≤ a ^ n := by
  have h1 := two_pow_nbits ha
  have h2 : (2 ^ (nbits a - 1)) ^ n ≤ a ^ n := Nat.pow_le_pow_left h1 n
  rw [← Nat.pow_mul] at h2
  exact Nat.le_trans (Nat.pow_le_pow_right (by omega) h) h2

theorem length_limbs_pow2 {n k : Nat} (h : n < 2 ^ (32 * k)) : (limbs n).length ≤ k := length_limbs_le (by rw [pow32]; exact h)
theorem length_limbs_gt {n k : Nat} (h : 2 ^ (32 * k) ≤ n) : k < (limbs n).length := by
  rcases Nat.lt_or_ge k (limbs n).length with h1 | h1
  · exact h1
  · have h2 := lt_pow_length n
    have : 4294967296 ^ (limbs n).length ≤ 4294967296 ^ k := Nat.pow_le_pow_right (by omega) h1
    rw [pow32 k] at this
    omega

theorem length_limbs_le_iff {n k : Nat} : (limbs n).length ≤ k ↔ n < 2 ^ (32 * k) := by
  constructor
  · intro h
    rcases Nat.lt_or_ge n (2 ^ (32 * k)) with h1 | h1
    · exact h1
    · have := length_limbs_gt h1; omega
  · exact length_limbs_pow2

/-! ### binomial coefficients -/
def choose : Nat → Nat → Nat
  | _, 0 => 1
  | 0, _ + 1 => 0
  | n + 1, k + 1 => choose n k + choose n (k + 1)

theorem choose_zero_right (n : Nat) : choose n 0 = 1 := by cases n <;> rfl
theorem choose_zero_succ (k : Nat) : choose 0 (k + 1) = 0 := rfl
theorem choose_succ_succ (n k : Nat) : choose (n + 1) (k + 1) = choose n k + choose n (k + 1) := rfl

theorem choose_lt : ∀ {n k : Nat}, n < k → choose n k = 0
  | 0, k + 1, _ => rfl
  | n + 1, k + 1, h => by rw [choose_succ_succ, choose_lt (by omega), choose_lt (by omega)]

theorem choose_self (n : Nat) : choose n n = 1 := by
  induction n with
  | zero => rfl
  | succ n ih => rw [choose_succ_succ, ih, choose_lt (by omega)]

theorem succ_mul_choose : ∀ (n k : Nat), (n + 1) * choose n k = choose (n + 1) (k + 1) * (k + 1)
  | 0, 0 => rfl
  | 0, k + 1 => by rw [choose_zero_succ, choose_lt (by omega)]; simp
  | n + 1, 0 => by
    have h := succ_mul_choose n 0
    rw [choose_succ_succ (n + 1) 0, choose_zero_right]
    rw [choose_zero_right] at h
    omega
  | n + 1, k + 1 => by
    have h1 := succ_mul_choose n k
    have h2 := succ_mul_choose n (k + 1)
    rw [choose_succ_succ (n + 1) (k + 1), Nat.add_mul (choose (n + 1) (k + 1)), ← h2]
    have e : choose (n + 1) (k + 1) * (k + 1 + 1) = choose (n + 1) (k + 1) * (k + 1) + choose (n + 1) (k + 1) := by rw [Nat.mul_add]; simp
    rw [e, ← h1]
    have e2 : (n + 1 + 1) * choose (n + 1) (k + 1) = (n + 1) * choose (n + 1) (k + 1) + choose (n + 1) (k + 1) := by rw [Nat.add_mul]; simp
    rw [e2]
    conv => lhs; rw [choose_succ_succ, Nat.mul_add]
    rw [choose_succ_succ n k]
    omega

/-- The step of the product. -/
theorem choose_step {n k : Nat} (h : k ≤ n) : choose n k * (n - k) = choose n (k + 1) * (k + 1) := by
  have h1 := succ_mul_choose n k
  rw [choose_succ_succ, Nat.add_mul (choose n k)] at h1
  obtain ⟨m, rfl⟩ : ∃ m, n = k + m := ⟨n - k, by omega⟩
  rw [Nat.add_sub_cancel_left]
  have e : (k + m + 1) * choose (k + m) k = choose (k + m) k * m + choose (k + m) k * (k + 1) := by rw [Nat.mul_comm, ← Nat.mul_add]; congr 1; omega
  omega

theorem choose_step_div {n k : Nat} (h : k ≤ n) : choose n k * (n - k) / (k + 1) = choose n (k + 1) := by
  rw [choose_step h]; exact Nat.mul_div_cancel _ (by omega)

theorem choose_pos : ∀ {n k : Nat}, k ≤ n → 0 < choose n k
  | n, 0, _ => by rw [choose_zero_right]; omega
  | n + 1, k + 1, h => by rw [choose_succ_succ]; have := choose_pos (n := n) (k := k) (by omega); omega

theorem choose_eq_zero {n k : Nat} : choose n k = 0 ↔ n < k := by
  constructor
  · intro h
    rcases Nat.lt_or_ge n k with h1 | h1
    · exact h1
    · have := choose_pos h1; omega
  · exact choose_lt

theorem choose_le : ∀ (n k : Nat), choose n k ≤ 2 ^ n
  | 0, 0 => by decide
  | 0, k + 1 => by rw [choose_zero_succ]; omega
  | n + 1, 0 => by rw [choose_zero_right]; exact Nat.two_pow_pos _
  | n + 1, k + 1 => by
    have h1 := choose_le n k
    have h2 := choose_le n (k + 1)
    rw [choose_succ_succ, Nat.pow_succ]; omega

theorem choose_symm_add : ∀ (a b : Nat), choose (a + b) a = choose (a + b) b
  | 0, b => by rw [choose_zero_right, Nat.zero_add, choose_self]
  | a + 1, 0 => by rw [choose_zero_right, Nat.add_zero, choose_self]
  | a + 1, b + 1 => by
    have h1 := choose_symm_add a (b + 1)
    have h2 := choose_symm_add (a + 1) b
    have e : a + 1 + (b + 1) = (a + b + 1) + 1 := by omega
    rw [e, choose_succ_succ, choose_succ_succ (a + b + 1) b]
    rw [show a + (b + 1) = a + b + 1 from by omega] at h1
    rw [show a + 1 + b = a + b + 1 from by omega] at h2
    omega

theorem choose_symm {n k : Nat} (h : k ≤ n) : choose n (n - k) = choose n k := by
  obtain ⟨m, rfl⟩ : ∃ m, n = k + m := ⟨n - k, by omega⟩
  rw [Nat.add_sub_cancel_left, choose_symm_add]

/-- Σ for j below n. -/
def sumTo : Nat → (Nat → Nat) → Nat
  | 0, _ => 0
  | n + 1, f => sumTo n f + f n

theorem sumTo_congr {n : Nat} {f g : Nat → Nat} (h : ∀ j, j < n → f j = g j) : sumTo n f = sumTo n g := by
  induction n with
  | zero => rfl
  | succ n ih => rw [sumTo, sumTo, ih (fun j hj => h j (by omega)), h n (by omega)]

theorem sumTo_add (n : Nat) (f g : Nat → Nat) : sumTo n (fun j => f j + g j) = sumTo n f + sumTo n g := by
  induction n with
  | zero => rfl
  | succ n ih => simp only [sumTo, ih]; omega

theorem sumTo_shift (n : Nat) (f : Nat → Nat) : sumTo (n + 1) f = f 0 + sumTo n (fun j => f (j + 1)) := by
  induction n with
  | zero => simp [sumTo]
  | succ n ih => rw [sumTo, ih]; simp only [sumTo]; omega

theorem sumTo_zero (n : Nat) : sumTo n (fun _ => 0) = 0 := by
  induction n with
  | zero => rfl
  | succ n ih => simp only [sumTo, ih]

theorem vandermonde : ∀ (m n k : Nat), choose (m + n) k = sumTo (k + 1) (fun j => choose m j * choose n (k - j))
  | 0, n, k => by
    rw [sumTo_shift, Nat.zero_add]
    have : sumTo k (fun j => choose 0 (j + 1) * choose n (k - (j + 1))) = 0 := by
      conv => rhs; rw [← sumTo_zero k]
      exact sumTo_congr fun j _ => by rw [choose_zero_succ, Nat.zero_mul]
    rw [this, choose_zero_right]; simp
  | m + 1, n, 0 => by simp [sumTo, choose_zero_right]
  | m + 1, n, k + 1 => by
    have h1 := vandermonde m n k
    have h2 := vandermonde m n (k + 1)
    rw [show m + 1 + n = (m + n) + 1 from by omega, choose_succ_succ, h1, h2]
    rw [sumTo_shift (k + 1), sumTo_shift (k + 1)]
    have e : sumTo (k + 1) (fun j => choose (m + 1) (j + 1) * choose n (k + 1 - (j + 1))) = sumTo (k + 1) (fun j => choose m j * choose n (k - j)) + sumTo (k + 1) (fun j => choose m (j + 1) * choose n (k + 1 - (j + 1))) := by
      rw [← sumTo_add]
      refine sumTo_congr fun j _ => ?_
      rw [choose_succ_succ, Nat.add_mul, show k + 1 - (j + 1) = k - j from by omega]
    rw [e, choose_zero_right, choose_zero_right]
    omega
end Go.Proofs.YtfggecdgnidhfaaDoor
