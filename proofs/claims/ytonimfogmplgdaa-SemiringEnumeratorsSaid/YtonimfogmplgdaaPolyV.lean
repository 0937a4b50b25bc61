/- A row of numbers of a call's own: reading it, writing it. -/
import Derived.Test.YtonimfogmplgdaaPolyM
import Derived.Test.YtonimfogmplgdaaPathK
import Derived.Test.YtonimfogmplgdaaTwo
namespace Go.Proofs.Ytonimfogmplgdaa
open Go.RowKit
theorem Try.infoNatP : (Try.prog.info? 23).map (fun i => (i.zero, i.size, i.bytes)) = some (some (.slice none 0 0), 1, 24) := by kernel_rfl
/-- A number that is read. -/
def IsNr (N K : Nat) (v : Value) (w : World) : Prop := ∃ A n c, v = .slice A n c ∧ Rd w A n c (limbs N) ∧ n ≤ K
theorem IsNr.lasting {N K : Nat} : ∀ v w w', Below w.heap.size w w' → IsNr N K v w → IsNr N K v w' := fun _ _ _ hb ⟨A, n, c, h1, h2, h3⟩ => ⟨A, n, c, h1, h2.below hb, h3⟩
/-- Two lists of limbs, just written out. -/
def IsNp (l k : List Nat) (v : Value) (w : World) : Prop := ∃ g, v = .slice (some ⟨g, 0, none⟩) 2 2 ∧ RdL w (some ⟨g, 0, none⟩) 2 2 [l, k]
theorem IsNp.lasting {l k : List Nat} : ∀ v w w', Below w.heap.size w w' → IsNp l k v w → IsNp l k v w' := fun _ _ _ hb ⟨g, h1, h2⟩ => ⟨g, h1, h2.below hb⟩
theorem From.lastsP {W : World} : ∀ w w', Below w.heap.size w w' → From W w → From W w' := fun _ _ hb h => From.step h hb
/-- Block g holds n slices of the call's own, that read as the numbers xs. -/
structure OwnV (K : Nat) (w : World) (base g n : Nat) (xs : List Nat) : Prop where
  len : xs.length = n
  ex : ∃ vs, w.ownsRow base 23 1 (.slice (some ⟨g, 0, none⟩) n n) n vs ∧ ∀ k, k < n → (natC K).rel (xs.getD k 0) (vs.getD k undef) w
section
variable {K : Nat} {w w' : World} {base g n : Nat} {xs : List Nat}
theorem OwnV.made (K : Nat) {w : World} {n : Nat} {w' : World} (h : w'.ownsRow base 23 1 (.slice (some ⟨w.heap.size, 0, none⟩) n n) n (List.replicate n (.slice none 0 0))) :
    OwnV K w' base w.heap.size n (List.replicate n 0) := by
  refine ⟨List.length_replicate, _, h, fun k hk => ?_⟩
  have e1 : (List.replicate n (0 : Nat)).getD k 0 = 0 := by simp [List.getD_eq_getElem?_getD, hk]
  have e2 : (List.replicate n (Value.slice none 0 0)).getD k undef = .slice none 0 0 := by simp [List.getD_eq_getElem?_getD, hk]
  rw [e1, e2]
  exact ⟨none, 0, 0, rfl, by rw [limbs_zero]; exact Rd.nil _, Nat.zero_le _⟩
theorem OwnV.below (h : OwnV K w base g n xs) (hb : Below w.heap.size w w') : OwnV K w' base g n xs := by
  obtain ⟨hl, vs, h1, h2⟩ := h
  exact ⟨hl, vs, ownsRow_keep h1 hb (Nat.le_refl _), fun k hk => (natC K).last _ _ _ _ hb (h2 k hk)⟩
theorem OwnV.block (h : OwnV K w base g n xs) : base ≤ g ∧ g < w.heap.size ∧ n ≤ maxLen := by
  obtain ⟨hl, vs, h1, _⟩ := h
  rcases ownsRow_form h1 with ⟨h9, _⟩ | ⟨b, c, h9, k1, k2, k3, k4⟩
  · cases h9
  · simp only [Value.slice.injEq, Option.some.injEq, Addr.mk.injEq, true_and, and_true] at h9
    obtain ⟨rfl, rfl⟩ := h9
    exact ⟨k1, k2, k4⟩
theorem OwnV.cell (h : OwnV K w base g n xs) {k : Nat} (hk : k < n) : ∃ A m c, w.cell? ⟨g, k, none⟩ = some (.slice A m c) ∧ Rd w A m c (limbs (xs.getD k 0)) ∧ m ≤ K ∧ w.frozen? ⟨g, k, none⟩ = false := by
  obtain ⟨hl, vs, h1, h2⟩ := h
  obtain ⟨A, m, c, e, h3, h4⟩ := h2 k hk
  have h5 := h1.cellAt k (by omega)
  have h6 := h1.1
  refine ⟨A, m, c, ?_, h3, h4, h1.frozenAt k⟩
  rw [h5, ← e, List.getD_eq_getElem?_getD, List.getElem?_eq_getElem (by omega)]
  rfl
theorem OwnV.store (h : OwnV K w base g n xs) {k : Nat} (hk : k < n) {A : Option Addr} {m c N : Nat} (hR : Rd w A m c (limbs N)) (hm : m ≤ K) :
    OwnV K (w.setCell ⟨g, k, none⟩ (.slice A m c)) base g n (xs.set k N) := by
  obtain ⟨A0, m0, c0, hc0, hr0, hk0, _⟩ := h.cell hk
  obtain ⟨hl, vs, h1, h2⟩ := h
  obtain ⟨hs, _⟩ := h1.stored k (.slice A m c)
  have hv := h1.1
  refine ⟨by rw [List.length_set]; exact hl, _, hs, fun j hj => ?_⟩
  by_cases hkj : k = j
  · subst hkj
    rw [gset_self _ _ _ (by omega), gset_self _ _ _ (by omega)]
    exact ⟨A, m, c, rfl, hR.setCell hc0 (by intro x e; cases e), hm⟩
  · rw [gset_ne _ _ _ hkj, gset_ne _ _ _ hkj]
    obtain ⟨A', m', c', e', r', k'⟩ := h2 j hj
    exact ⟨A', m', c', e', r'.setCell hc0 (by intro x e; cases e), k'⟩
theorem OwnV.take (h : OwnV K w base g n xs) {m : Nat} (hm : m ≤ n) : RdV (natC K) 0 w 1 (some ⟨g, 0, none⟩) m m (xs.take m) := by
  obtain ⟨h1, h2, h3⟩ := h.block
  refine ⟨by rw [List.length_take, h.len]; omega, Nat.le_refl _, by omega, fun h0 => ⟨g, 0, rfl, h2, fun k hk => ?_⟩⟩
  obtain ⟨A, m', c, hc, hr, hk', _⟩ := h.cell (k := k) (by omega)
  refine ⟨.slice A m' c, by rw [Nat.zero_add]; exact hc, A, m', c, rfl, ?_, hk'⟩
  rw [take_co, if_pos (by omega)]
  exact hr
theorem OwnV.rd (h : OwnV K w base g n xs) : RdV (natC K) 0 w 1 (some ⟨g, 0, none⟩) n n xs := by
  have := h.take (Nat.le_refl n)
  rwa [List.take_of_length_le (by rw [h.len]; exact Nat.le_refl _)] at this
end
/-- A row of numbers, read as a row of lists of limbs. -/
theorem RdV.rdl {K : Nat} {w : World} {A : Option Addr} {n c : Nat} {xs : List Nat} (h : RdV (natC K) 0 w 1 A n c xs) : RdL w A n c (xs.map limbs) := by
  have hl := h.len
  refine ⟨by rw [List.length_map]; omega, h.cap, h.max, fun hn => ?_⟩
  obtain ⟨b, off, e, hb, hc⟩ := h.cells (by omega)
  refine ⟨b, off, e, hb, fun j hj => ?_⟩
  obtain ⟨v, h1, A', m, c', rfl, h2, _⟩ := hc j (by omega)
  refine ⟨A', m, c', h1, ?_⟩
  have e1 : (xs.map limbs).getD j [] = limbs (xs.getD j 0) := by
    simp only [List.getD_eq_getElem?_getD, List.getElem?_map, List.getElem?_eq_getElem (show j < xs.length by omega)]
    rfl
  rw [e1]
  exact h2
theorem RdV.few {K : Nat} {w : World} {A : Option Addr} {n c : Nat} {xs : List Nat} (h : RdV (natC K) 0 w 1 A n c xs) (k : Nat) : ((xs.map limbs).getD k []).length ≤ K := by
  have hl := h.len
  by_cases hk : k < n
  · obtain ⟨b, off, e, hb, hc⟩ := h.cells (by omega)
    obtain ⟨v, h1, A', m, c', rfl, h2, h3⟩ := hc k (by omega)
    have e1 : (xs.map limbs).getD k [] = limbs (xs.getD k 0) := by
      simp only [List.getD_eq_getElem?_getD, List.getElem?_map, List.getElem?_eq_getElem (show k < xs.length by omega)]
      rfl
    rw [e1, h2.len]
    exact h3
  · rw [List.getD_eq_getElem?_getD, List.getElem?_eq_none (by rw [List.length_map]; omega)]
    exact Nat.zero_le _
theorem map_val_limbs (xs : List Nat) : (xs.map limbs).map val = xs := by
  rw [List.map_map]
  conv => rhs; rw [← List.map_id xs]
  exact List.map_congr_left fun x _ => val_limbs x
theorem map_val_co (ll : List (List Nat)) (k : Nat) : (ll.map val).getD k 0 = val (ll.getD k []) := by
  simp only [List.getD_eq_getElem?_getD, List.getElem?_map]
  cases ll[k]? <;> rfl
/-- A call that returns a row of numbers. -/
def RetP (xs : List Nat) (K : Nat) (w : World) (e : Ending) (w' : World) : Prop := ∃ A n c, e = .returned (.slice A n c) ∧ RdV (natC K) 0 w' 1 A n c xs ∧ Below w.heap.size w w'
/-- The first i entries, then noughts. -/
def tkL (n : Nat) (xs : List Nat) (i : Nat) : List Nat := (List.range n).map fun k => if k < i then xs.getD k 0 else 0
theorem tkL_zero (n : Nat) (xs : List Nat) : tkL n xs 0 = List.replicate n 0 := by
  refine List.ext_getElem (by simp [tkL]) fun k h1 h2 => ?_
  simp [tkL]
theorem tkL_set (n : Nat) (xs : List Nat) (i x : Nat) (h : xs.getD i 0 = x) : (tkL n xs i).set i x = tkL n xs (i + 1) := by
  refine range_set _ _ _ _ _ (by rw [if_pos (Nat.lt_succ_self i), h]) fun k hk => ?_
  by_cases h1 : k < i
  · rw [if_pos h1, if_pos (by omega)]
  · rw [if_neg h1, if_neg (by omega)]
theorem tkL_end (n : Nat) (xs : List Nat) (h : n ≤ xs.length) : tkL n xs n = xs.take n := by
  refine List.ext_getElem (by simp [tkL, h]) fun k h1 h2 => ?_
  have hk : k < n := by simpa [tkL] using h1
  simp [tkL, hk, List.getD_eq_getElem?_getD, show k < xs.length by omega]
theorem two_rdl {w : World} {A B : Option Addr} {n c m d g : Nat} {l k : List Nat} (hg : g = w.heap.size) (h : Rd w A n c l) (h' : Rd w B m d k) : RdL (w.alloc (.cells #[.slice A n c, .slice B m d] 23)) (some ⟨g, 0, none⟩) 2 2 [l, k] := by
  subst hg; exact rdl_two 23 h h'
theorem two_mul {w : World} {A : Option Addr} {a b : Nat} {l k : List Nat} (h : RdL w A 2 2 [l, k]) (hl : l.length ≤ a) (hk : k.length ≤ b) (ha : a ≤ 100000) (hb : b ≤ 100000) :
    Calls Try.prog 43 #[.slice A 2 2] w (RetB (val l * val k) (a + b) w) := by
  have hlm := h.lims
  refine (mul_any A 2 2 _ w h 100000 (fun x hx => ?_) (by omega) (by omega)).mono ?_
  · simp at hx
    rcases hx with rfl | rfl <;> omega
  · intro e w' hr
    have hv : prodV [l, k] = val l * val k := by simp [prodV]
    rw [hv] at hr
    exact hr.b (mul_lt_pow (Nat.lt_of_lt_of_le (val_lt (hlm l (by simp))) (pow_le_pow_limb hl)) (Nat.lt_of_lt_of_le (val_lt (hlm k (by simp))) (pow_le_pow_limb hk)))
theorem two_add {w : World} {A : Option Addr} {a : Nat} {l k : List Nat} (h : RdL w A 2 2 [l, k]) (hl : l.length ≤ a) (hk : k.length ≤ a) (ha : a ≤ 100000) :
    Calls Try.prog 40 #[.slice A 2 2] w (RetB (val l + val k) (a + 1) w) := by
  have hlm := h.lims
  refine (add_any A 2 2 _ w h 100000 (fun x hx => ?_) (by omega) (by omega)).mono ?_
  · simp at hx
    rcases hx with rfl | rfl <;> omega
  · intro e w' hr
    have hv : sumV [l, k] = val l + val k := by simp [sumV]
    rw [hv] at hr
    refine hr.b ?_
    have h1 := Nat.lt_of_lt_of_le (val_lt (hlm l (by simp))) (pow_le_pow_limb hl)
    have h2 := Nat.lt_of_lt_of_le (val_lt (hlm k (by simp))) (pow_le_pow_limb hk)
    rw [Nat.pow_succ]
    omega
end Go.Proofs.Ytonimfogmplgdaa
