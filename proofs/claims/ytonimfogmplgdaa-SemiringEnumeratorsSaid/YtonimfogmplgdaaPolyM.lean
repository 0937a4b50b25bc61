/- Polynomials over the natural numbers, in plain Lean. -/
import Derived.Test.YtonimfogmplgdaaMath
namespace Go.Proofs.Ytonimfogmplgdaa
/-- Without the noughts at the end. -/
def trimN : List Nat → List Nat
  | [] => []
  | x :: l => if x = 0 ∧ trimN l = [] then [] else x :: trimN l
theorem trimN_co : ∀ (l : List Nat) (k : Nat), (trimN l).getD k 0 = l.getD k 0 := by
  intro l
  induction l with
  | nil => intro k; rfl
  | cons x l ih =>
    intro k
    unfold trimN
    split
    · rename_i h
      cases k with
      | zero => simp [h.1]
      | succ k =>
        have := ih k
        rw [h.2] at this
        simpa using this
    · cases k with
      | zero => simp
      | succ k => simpa using ih k
theorem trimN_nil : ∀ (l : List Nat), (∀ k, l.getD k 0 = 0) → trimN l = [] := by
  intro l
  induction l with
  | nil => intro _; rfl
  | cons x l ih =>
    intro h
    unfold trimN
    have h0 : x = 0 := by simpa using h 0
    have h1 : trimN l = [] := ih fun k => by simpa using h (k + 1)
    rw [if_pos ⟨h0, h1⟩]
theorem trimN_ext : ∀ (l m : List Nat), (∀ k, l.getD k 0 = m.getD k 0) → trimN l = trimN m := by
  intro l
  induction l with
  | nil =>
    intro m h
    rw [trimN_nil m fun k => (h k).symm]
    rfl
  | cons x l ih =>
    intro m h
    cases m with
    | nil => rw [trimN_nil (x :: l) h]; rfl
    | cons y m =>
      have h0 : x = y := by simpa using h 0
      have h1 : trimN l = trimN m := ih m fun k => by simpa using h (k + 1)
      simp only [trimN, h0, h1]
theorem trimN_idem (l : List Nat) : trimN (trimN l) = trimN l := trimN_ext _ _ (trimN_co l)
theorem trimN_len_le (l : List Nat) : (trimN l).length ≤ l.length := by
  induction l with
  | nil => exact Nat.le_refl _
  | cons x l ih =>
    unfold trimN
    split
    · simp
    · simp only [List.length_cons]; omega
theorem trimN_take (l : List Nat) : trimN l = l.take (trimN l).length := by
  induction l with
  | nil => rfl
  | cons x l ih =>
    unfold trimN
    split
    · simp
    · simp only [List.length_cons, List.take_succ_cons]
      rw [← ih]
theorem take_co (l : List Nat) (i k : Nat) : (l.take i).getD k 0 = if k < i then l.getD k 0 else 0 := by
  simp only [List.getD_eq_getElem?_getD]
  split
  · rename_i h
    rw [List.getElem?_take_of_lt h]
  · rename_i h
    rw [List.getElem?_eq_none (by simp; omega)]
    rfl
theorem lt_of_co {l : List Nat} {k : Nat} (h : l.getD k 0 ≠ 0) : k < l.length := by
  rcases Nat.lt_or_ge k l.length with h1 | h1
  · exact h1
  · exact absurd (by rw [List.getD_eq_getElem?_getD, List.getElem?_eq_none h1]; rfl) h
theorem co_far {l : List Nat} {k : Nat} (h : l.length ≤ k) : l.getD k 0 = 0 := by
  rw [List.getD_eq_getElem?_getD, List.getElem?_eq_none h]; rfl
theorem trimN_step {l : List Nat} {i : Nat} (h : i < l.length) : (trimN (l.take (i + 1))).length = if l.getD i 0 = 0 then (trimN (l.take i)).length else i + 1 := by
  split
  · rename_i h0
    rw [trimN_ext (l.take (i + 1)) (l.take i) fun k => ?_]
    rw [take_co, take_co]
    by_cases h1 : k < i
    · rw [if_pos h1, if_pos (by omega)]
    · rw [if_neg h1]
      by_cases h2 : k = i
      · rw [if_pos (by omega), h2, h0]
      · rw [if_neg (by omega)]
  · rename_i h0
    have h1 : i < (trimN (l.take (i + 1))).length := lt_of_co (by rw [trimN_co, take_co, if_pos (by omega)]; exact h0)
    have h2 := trimN_len_le (l.take (i + 1))
    rw [List.length_take] at h2
    omega
theorem range_co (n : Nat) (f : Nat → Nat) (k : Nat) : ((List.range n).map f).getD k 0 = if k < n then f k else 0 := by
  simp only [List.getD_eq_getElem?_getD, List.getElem?_map]
  split
  · rename_i h
    rw [List.getElem?_range h]; rfl
  · rename_i h
    rw [List.getElem?_eq_none (by simp; omega)]; rfl
theorem range_set (n : Nat) (f g : Nat → Nat) (i : Nat) (x : Nat) (hi : g i = x) (h : ∀ k, k ≠ i → g k = f k) : ((List.range n).map f).set i x = (List.range n).map g := by
  refine List.ext_getElem (by simp) fun k h1 h2 => ?_
  simp only [List.length_set, List.length_map, List.length_range] at h1
  rw [List.getElem_set]
  split
  · rename_i h3
    simp [← h3, hi]
  · rename_i h3
    simp [h k fun e => h3 e.symm]

/-! ### sums -/
def addL (a b : List Nat) : List Nat := (List.range (max a.length b.length)).map fun k => a.getD k 0 + b.getD k 0
/-- The sum of two polynomials. -/
def addP (a b : List Nat) : List Nat := trimN (addL a b)
theorem addL_co (a b : List Nat) (k : Nat) : (addL a b).getD k 0 = a.getD k 0 + b.getD k 0 := by
  unfold addL
  rw [range_co]
  split
  · rfl
  · rename_i h
    rw [co_far (by omega), co_far (by omega)]
theorem addP_co (a b : List Nat) (k : Nat) : (addP a b).getD k 0 = a.getD k 0 + b.getD k 0 := by
  unfold addP
  rw [trimN_co, addL_co]
/-- The sum up to index i. -/
def adL (n : Nat) (a b : List Nat) (i : Nat) : List Nat := (List.range n).map fun k => if k < i then a.getD k 0 + b.getD k 0 else 0
theorem adL_len (n : Nat) (a b : List Nat) (i : Nat) : (adL n a b i).length = n := by simp [adL]
theorem adL_co {n : Nat} {a b : List Nat} {i k : Nat} : (adL n a b i).getD k 0 = if k < n ∧ k < i then a.getD k 0 + b.getD k 0 else 0 := by
  unfold adL
  rw [range_co]
  by_cases h1 : k < n
  · by_cases h2 : k < i
    · rw [if_pos h1, if_pos h2, if_pos ⟨h1, h2⟩]
    · rw [if_pos h1, if_neg h2, if_neg (fun h => h2 h.2)]
  · rw [if_neg h1, if_neg (fun h => h1 h.1)]
theorem adL_zero (n : Nat) (a b : List Nat) : adL n a b 0 = List.replicate n 0 := by
  refine List.ext_getElem (by simp [adL]) fun k h1 h2 => ?_
  simp [adL]
theorem adL_set (n : Nat) (a b : List Nat) (i : Nat) : (adL n a b i).set i (a.getD i 0 + b.getD i 0) = adL n a b (i + 1) := by
  refine range_set _ _ _ _ _ (if_pos (Nat.lt_succ_self i)) fun k hk => ?_
  by_cases h1 : k < i
  · rw [if_pos h1, if_pos (by omega)]
  · rw [if_neg h1, if_neg (by omega)]
theorem adL_skip {n : Nat} {a b : List Nat} {i : Nat} (h : a.getD i 0 + b.getD i 0 = 0) : adL n a b i = adL n a b (i + 1) := by
  unfold adL
  refine List.map_congr_left fun k _ => ?_
  by_cases h1 : k < i
  · rw [if_pos h1, if_pos (by omega)]
  · rw [if_neg h1]
    by_cases h2 : k = i
    · rw [if_pos (by omega), h2, h]
    · rw [if_neg (by omega)]
theorem adL_end (a b : List Nat) : adL (max a.length b.length) a b (max a.length b.length) = addL a b := by
  unfold adL addL
  refine List.map_congr_left fun k hk => ?_
  rw [if_pos (List.mem_range.1 hk)]

/-! ### products -/
def sig (f : Nat → Nat) : Nat → Nat
  | 0 => 0
  | n + 1 => sig f n + f n
theorem sig_congr {f g : Nat → Nat} : ∀ {n : Nat}, (∀ i, i < n → f i = g i) → sig f n = sig g n := by
  intro n
  induction n with
  | zero => intro _; rfl
  | succ n ih =>
    intro h
    simp only [sig]
    rw [ih fun i hi => h i (by omega), h n (by omega)]
theorem sig_zero {f : Nat → Nat} : ∀ {n : Nat}, (∀ i, i < n → f i = 0) → sig f n = 0 := by
  intro n
  induction n with
  | zero => intro _; rfl
  | succ n ih =>
    intro h
    simp only [sig]
    rw [ih fun i hi => h i (by omega), h n (by omega)]
theorem sig_far {f : Nat → Nat} {n : Nat} : ∀ {m : Nat}, n ≤ m → (∀ i, n ≤ i → f i = 0) → sig f m = sig f n := by
  intro m
  induction m with
  | zero => intro h _; obtain rfl : n = 0 := by omega
            rfl
  | succ m ih =>
    intro h hf
    by_cases h1 : n = m + 1
    · rw [h1]
    · simp only [sig]
      rw [ih (by omega) hf, hf m (by omega)]
      rfl
theorem sig_add (f g : Nat → Nat) (n : Nat) : sig (fun i => f i + g i) n = sig f n + sig g n := by
  induction n with
  | zero => rfl
  | succ n ih => simp only [sig, ih]; omega
theorem sig_le {f : Nat → Nat} {C : Nat} : ∀ {n : Nat}, (∀ i, i < n → f i ≤ C) → sig f n ≤ n * C := by
  intro n
  induction n with
  | zero => intro _; exact Nat.zero_le _
  | succ n ih =>
    intro h
    simp only [sig]
    rw [Nat.add_mul, Nat.one_mul]
    exact Nat.add_le_add (ih fun i hi => h i (by omega)) (h n (by omega))
theorem sig_one {f : Nat → Nat} {k : Nat} : ∀ {n : Nat}, (∀ i, i ≠ k → f i = 0) → sig f n = if k < n then f k else 0 := by
  intro n
  induction n with
  | zero => intro _; rfl
  | succ n ih =>
    intro h
    simp only [sig]
    rw [ih h]
    by_cases h1 : n = k
    · subst h1
      rw [if_neg (by omega), if_pos (by omega)]
      omega
    · rw [h n h1]
      by_cases h2 : k < n
      · rw [if_pos h2, if_pos (by omega)]; rfl
      · rw [if_neg h2, if_neg (by omega)]
/-- What stands against index i at index k. -/
def bk (b : List Nat) (k i : Nat) : Nat := if i ≤ k then b.getD (k - i) 0 else 0
def conv (a b : List Nat) (k : Nat) : Nat := sig (fun i => a.getD i 0 * bk b k i) a.length
def mulL (n : Nat) (a b : List Nat) : List Nat := (List.range n).map (conv a b)
/-- The product of two polynomials. -/
def mulP (a b : List Nat) : List Nat := trimN (mulL (a.length + b.length) a b)
theorem conv_wide {a b : List Nat} {k m : Nat} (h : a.length ≤ m) : sig (fun i => a.getD i 0 * bk b k i) m = conv a b k :=
  sig_far h fun i hi => by rw [co_far hi, Nat.zero_mul]
theorem conv_far {a b : List Nat} {k : Nat} (h : a.length + b.length ≤ k + 1) : conv a b k = 0 := by
  refine sig_zero fun i hi => ?_
  unfold bk
  split
  · rw [co_far (l := b) (by omega), Nat.mul_zero]
  · rw [Nat.mul_zero]
theorem conv_congr {a a' b b' : List Nat} (h : ∀ k, a.getD k 0 = a'.getD k 0) (h' : ∀ k, b.getD k 0 = b'.getD k 0) (k : Nat) : conv a b k = conv a' b' k := by
  rw [← conv_wide (b := b) (k := k) (Nat.le_max_left a.length a'.length), ← conv_wide (b := b') (k := k) (Nat.le_max_right a.length a'.length)]
  refine sig_congr fun i _ => ?_
  rw [h i]
  unfold bk
  rw [h' (k - i)]
theorem mulL_co {n : Nat} {a b : List Nat} (h : a.length + b.length ≤ n + 1) (k : Nat) : (mulL n a b).getD k 0 = conv a b k := by
  unfold mulL
  rw [range_co]
  split
  · rfl
  · rw [conv_far (by omega)]
theorem mulP_co (a b : List Nat) (k : Nat) : (mulP a b).getD k 0 = conv a b k := by
  unfold mulP
  rw [trimN_co, mulL_co (by omega)]
theorem mulP_of {n : Nat} {a b : List Nat} (h : a.length + b.length ≤ n + 1) : trimN (mulL n a b) = mulP a b :=
  trimN_ext _ _ fun k => by rw [mulL_co h, mulL_co (by omega)]
theorem mulP_congr {a a' b b' : List Nat} (h : ∀ k, a.getD k 0 = a'.getD k 0) (h' : ∀ k, b.getD k 0 = b'.getD k 0) : mulP a b = mulP a' b' := by
  unfold mulP
  exact trimN_ext _ _ fun k => by rw [mulL_co (by omega), mulL_co (by omega), conv_congr h h']
theorem mulP_trim (a b : List Nat) : mulP (trimN a) (trimN b) = mulP a b := mulP_congr (trimN_co a) (trimN_co b)
theorem mulP_can (a b : List Nat) : trimN (mulP a b) = mulP a b := trimN_idem _
theorem addP_can (a b : List Nat) : trimN (addP a b) = addP a b := trimN_idem _
theorem mulP_nil_left (b : List Nat) : mulP [] b = [] := trimN_nil _ fun k => by rw [mulL_co (by omega)]; rfl
theorem mulP_nil_right (a : List Nat) : mulP a [] = [] := trimN_nil _ fun k => by
  rw [mulL_co (by omega)]
  refine sig_zero fun i _ => ?_
  unfold bk
  split <;> simp
/-! ### the laws -/
theorem mulP_addP (a b c : List Nat) : mulP a (addP b c) = addP (mulP a b) (mulP a c) := by
  refine trimN_ext _ _ fun k => ?_
  rw [mulL_co (by omega), addL_co, mulP_co, mulP_co]
  unfold conv
  rw [← sig_add]
  refine sig_congr fun i _ => ?_
  rw [← Nat.mul_add]
  congr 1
  unfold bk
  split
  · exact addP_co b c _
  · rfl
theorem mulP_one (a : List Nat) : mulP a [1] = trimN a := by
  refine trimN_ext _ _ fun k => ?_
  rw [mulL_co (by omega)]
  unfold conv
  rw [sig_one (k := k) fun i hi => ?_]
  · split
    · simp [bk]
    · rw [co_far (by omega)]
  · unfold bk
    split
    · rw [co_far (l := [1]) (by simp; omega), Nat.mul_zero]
    · rw [Nat.mul_zero]
theorem addP_nil (a : List Nat) : addP a [] = trimN a := trimN_ext _ _ fun k => by rw [addL_co]; simp
theorem addP_congr {a a' b b' : List Nat} (h : ∀ k, a.getD k 0 = a'.getD k 0) (h' : ∀ k, b.getD k 0 = b'.getD k 0) : addP a b = addP a' b' :=
  trimN_ext _ _ fun k => by rw [addL_co, addL_co, h, h']
/-! ### a product, step by step -/
def cv (a b : List Nat) (i j k : Nat) : Nat := sig (fun x => a.getD x 0 * bk b k x) i + if i ≤ k ∧ k - i < j then a.getD i 0 * b.getD (k - i) 0 else 0
def cvL (n : Nat) (a b : List Nat) (i j : Nat) : List Nat := (List.range n).map (cv a b i j)
theorem cvL_len (n : Nat) (a b : List Nat) (i j : Nat) : (cvL n a b i j).length = n := by simp [cvL]
theorem cvL_co {n : Nat} {a b : List Nat} {i j k : Nat} (h : k < n) : (cvL n a b i j).getD k 0 = cv a b i j k := by
  unfold cvL
  rw [range_co, if_pos h]
theorem cvL_zero (n : Nat) (a b : List Nat) : cvL n a b 0 0 = List.replicate n 0 := by
  refine List.ext_getElem (by simp [cvL]) fun k h1 h2 => ?_
  simp [cvL, cv, sig]
theorem cvL_set (n : Nat) (a b : List Nat) (i j : Nat) : (cvL n a b i j).set (i + j) (cv a b i j (i + j) + a.getD i 0 * b.getD j 0) = cvL n a b i (j + 1) := by
  refine range_set _ _ _ _ _ ?_ fun k hk => ?_
  · unfold cv
    rw [if_pos ⟨by omega, by omega⟩, if_neg (by omega), show i + j - i = j by omega]
    omega
  · unfold cv
    congr 1
    by_cases h1 : i ≤ k ∧ k - i < j
    · rw [if_pos h1, if_pos ⟨h1.1, by omega⟩]
    · rw [if_neg h1, if_neg (by omega)]
theorem cvL_next {n : Nat} {a b : List Nat} {i : Nat} : cvL n a b i b.length = cvL n a b (i + 1) 0 := by
  unfold cvL
  refine List.map_congr_left fun k _ => ?_
  unfold cv
  simp only [sig]
  rw [if_neg (c := i + 1 ≤ k ∧ k - (i + 1) < 0) (by omega), Nat.add_zero]
  congr 1
  unfold bk
  by_cases h1 : i ≤ k
  · rw [if_pos h1]
    by_cases h2 : k - i < b.length
    · rw [if_pos ⟨h1, h2⟩]
    · rw [if_neg (fun h => h2 h.2), co_far (l := b) (by omega), Nat.mul_zero]
  · rw [if_neg h1, if_neg (fun h => h1 h.1), Nat.mul_zero]
theorem cvL_skip {n : Nat} {a b : List Nat} {i : Nat} (h : a.getD i 0 = 0) : cvL n a b i 0 = cvL n a b (i + 1) 0 := by
  unfold cvL
  refine List.map_congr_left fun k _ => ?_
  unfold cv
  simp only [sig]
  rw [if_neg (by omega), if_neg (by omega), h, Nat.zero_mul]
theorem cvL_end {n : Nat} {a b : List Nat} : cvL n a b a.length 0 = mulL n a b := by
  unfold cvL mulL
  refine List.map_congr_left fun k _ => ?_
  unfold cv conv
  rw [if_neg (by omega)]
  rfl
theorem cv_le {a b : List Nat} {A B : Nat} (ha : ∀ k, a.getD k 0 ≤ A) (hb : ∀ k, b.getD k 0 ≤ B) (i j k : Nat) : cv a b i j k ≤ (i + 1) * (A * B) := by
  unfold cv
  rw [Nat.add_mul, Nat.one_mul]
  refine Nat.add_le_add (sig_le fun x _ => Nat.mul_le_mul (ha x) ?_) ?_
  · unfold bk
    split
    · exact hb _
    · exact Nat.zero_le _
  · split
    · exact Nat.mul_le_mul (ha _) (hb _)
    · exact Nat.zero_le _
end Go.Proofs.Ytonimfogmplgdaa
