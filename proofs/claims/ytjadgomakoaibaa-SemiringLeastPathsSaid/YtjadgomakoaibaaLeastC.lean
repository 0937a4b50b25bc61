/- Rows of least weights: cells of two (a weight and a number). -/
import Derived.Test.YtjadgomakoaibaaGrid
import Derived.Test.YtjadgomakoaibaaLstMath
namespace Go.Proofs.Ytjadgomakoaibaa
open Go.RowKit
/-- Weights and numbers of at most K limbs, by turns. -/
def leastC (K : Nat) : Cells (Int ⊕ Nat) where
  rel x v w := match x with
    | .inl z => intC.rel z v w
    | .inr N => (natC K).rel N v w
  last x v w w' hb h := by
    cases x with
    | inl z => exact h
    | inr N => exact (natC K).last _ _ _ _ hb h
  kept x v w p u y u' hp hy h := by
    cases x with
    | inl z => exact h
    | inr N =>
      obtain ⟨A, n, c, h1, h2, h3⟩ := h
      refine ⟨A, n, c, h1, h2.setCell hp ?_, h3⟩
      cases y with
      | inl z => obtain ⟨rfl, _⟩ := hy; rintro x e; cases e
      | inr M => obtain ⟨_, _, _, rfl, _⟩ := hy; rintro x e; cases e
def flatL : List LW → List (Int ⊕ Nat)
  | [] => []
  | p :: l => .inl p.1 :: .inr p.2 :: flatL l
theorem flatL_length (l : List LW) : (flatL l).length = l.length * 2 := by
  induction l with
  | nil => rfl
  | cons p l ih => simp only [flatL, List.length_cons, ih]; omega
theorem flatL_get0 {l : List LW} {k : Nat} (h : k < l.length) (d : Int ⊕ Nat) (e : LW) : (flatL l).getD (k * 2) d = .inl (l.getD k e).1 := by
  induction l generalizing k with
  | nil => simp at h
  | cons p l ih =>
    cases k with
    | zero => rfl
    | succ k =>
      have := ih (k := k) (by simpa using h)
      simpa [flatL, show (k + 1) * 2 = k * 2 + 1 + 1 by omega] using this
theorem flatL_get1 {l : List LW} {k : Nat} (h : k < l.length) (d : Int ⊕ Nat) (e : LW) : (flatL l).getD (k * 2 + 1) d = .inr (l.getD k e).2 := by
  induction l generalizing k with
  | nil => simp at h
  | cons p l ih =>
    cases k with
    | zero => rfl
    | succ k =>
      have := ih (k := k) (by simpa using h)
      simpa [flatL, show (k + 1) * 2 = k * 2 + 1 + 1 by omega] using this
theorem flatL_set (l : List LW) (k : Nat) (x : LW) (h : k < l.length) : ((flatL l).set (k * 2) (.inl x.1)).set (k * 2 + 1) (.inr x.2) = flatL (l.set k x) := by
  induction l generalizing k with
  | nil => simp at h
  | cons p l ih =>
    cases k with
    | zero => rfl
    | succ k =>
      have := ih k (by simpa using h)
      simp only [flatL, show (k + 1) * 2 = k * 2 + 1 + 1 by omega, List.set_cons_succ, this]
theorem flatL_replicate (n : Nat) (p : LW) : flatL (List.replicate (n + 1) p) = .inl p.1 :: .inr p.2 :: flatL (List.replicate n p) := rfl
theorem flatL_append (l m : List LW) : flatL (l ++ m) = flatL l ++ flatL m := by
  induction l with
  | nil => rfl
  | cons p l ih => simp only [List.cons_append, flatL, ih]
def flatR (R : List (List LW)) : List (List (Int ⊕ Nat)) := R.map flatL
theorem flatR_length (R : List (List LW)) : (flatR R).length = R.length := List.length_map ..
theorem flatR_row (R : List (List LW)) (i : Nat) : (flatR R).getD i [] = flatL (R.getD i []) := by
  simp only [flatR, List.getD_eq_getElem?_getD, List.getElem?_map]
  cases R[i]? <;> rfl
theorem flatR_set (R : List (List LW)) (i : Nat) (l : List LW) : (flatR R).set i (flatL l) = flatR (R.set i l) := by
  simp only [flatR, List.map_set]
section
variable {K : Nat} {d : Int ⊕ Nat} {w : World} {base : Nat} {er e : TypeId} {size : Nat} {G : Option Addr} {n c : Nat} {vs : List Value} {R : List (List LW)}
/-- A weight and a number stored into a row of a grid of such. -/
theorem GridR.store2 (h : GridR (leastC K) d w base er e size G n c vs (flatR R)) {i : Nat} (hi : i < n) {b m e' : Nat} (hv : vs.getD i undef = .slice (some ⟨b, 0, none⟩) m e') {k : Nat} (hk : k < (R.getD i []).length)
    {x : LW} {A : Option Addr} {na ca : Nat} (hx : -9223372036854775808 ≤ x.1 ∧ x.1 ≤ 9223372036854775807) (hR : Rd w A na ca (limbs x.2)) (hn : na ≤ K) :
    GridR (leastC K) d ((w.setCell ⟨b, k * 2, none⟩ (.int .i64 x.1)).setCell ⟨b, k * 2 + 1, none⟩ (.slice A na ca)) base er e size G n c vs (flatR (set2 R i k x)) := by
  have hl : ((flatR R).getD i []).length = (R.getD i []).length * 2 := by rw [flatR_row, flatL_length]
  obtain ⟨⟨v0, hc0, hr0⟩, _⟩ := h.cell hi hv (k := k * 2) (by omega)
  have h1 := h.store hi hv (k := k * 2) (by omega) (x := .inl x.1) (u := .int .i64 x.1) ⟨rfl, hx⟩
  have hR2 : (natC K).rel x.2 (.slice A na ca) (w.setCell ⟨b, k * 2, none⟩ (.int .i64 x.1)) :=
    (leastC K).kept (.inr x.2) _ _ _ _ _ _ hc0 hr0 ⟨_, _, _, rfl, hR, hn⟩
  have h2 := h1.store hi hv (k := k * 2 + 1) (by rw [set2_rowlen]; omega) (x := .inr x.2) (u := .slice A na ca) hR2
  have hRl : i < R.length := by
    have := h.len
    rw [flatR_length] at this
    omega
  have e1 : set2 (set2 (flatR R) i (k * 2) (.inl x.1)) i (k * 2 + 1) (.inr x.2) = flatR (set2 R i k x) := by
    unfold set2
    rw [gset_self _ _ _ (by rw [flatR_length]; exact hRl), List.set_set, flatR_row, flatL_set _ _ _ hk, flatR_set]
  rw [e1] at h2
  exact h2
/-- A row of such, read at k. -/
theorem RdV.atW {xs : List LW} (h : RdV (leastC K) d w 2 G n c (flatL xs)) {k : Nat} (hk : k < n) : ∃ b off A na ca, G = some ⟨b, off, none⟩ ∧ b < w.heap.size ∧
    w.cell? ⟨b, off + k * 2, none⟩ = some (.int .i64 (xs.getD k ((infW, 0) : LW)).1) ∧ w.cell? ⟨b, off + k * 2 + 1, none⟩ = some (.slice A na ca) ∧
    (-9223372036854775808 ≤ (xs.getD k ((infW, 0) : LW)).1 ∧ (xs.getD k ((infW, 0) : LW)).1 ≤ 9223372036854775807) ∧ Rd w A na ca (limbs (xs.getD k ((infW, 0) : LW)).2) ∧ na ≤ K := by
  obtain ⟨b, off, e, hb, hc⟩ := h.cells (by omega)
  have hl := h.len
  rw [flatL_length] at hl
  obtain ⟨v, h1, h2⟩ := hc (k * 2) (by omega)
  obtain ⟨v', h3, h4⟩ := hc (k * 2 + 1) (by omega)
  rw [flatL_get0 (by omega) _ ((infW, 0) : LW)] at h2
  rw [flatL_get1 (by omega) _ ((infW, 0) : LW)] at h4
  obtain ⟨rfl, h5⟩ := h2
  obtain ⟨A, na, ca, rfl, h6, h7⟩ := h4
  exact ⟨b, off, A, na, ca, e, hb, h1, by rw [Nat.add_assoc]; exact h3, h5, h6, h7⟩
/-- A grid of such, read at (i, k). -/
theorem GridR.cellW (h : GridR (leastC K) d w base er e size G n c vs (flatR R)) {i : Nat} (hi : i < n) {b m e' : Nat} (hv : vs.getD i undef = .slice (some ⟨b, 0, none⟩) m e') {k : Nat} (hk : k < (R.getD i []).length) :
    ∃ A na ca, w.cell? ⟨b, k * 2, none⟩ = some (.int .i64 (at2 ((infW, 0) : LW) R i k).1) ∧ w.cell? ⟨b, k * 2 + 1, none⟩ = some (.slice A na ca) ∧ Rd w A na ca (limbs (at2 ((infW, 0) : LW) R i k).2) ∧ na ≤ K ∧
      w.frozen? ⟨b, k * 2, none⟩ = false ∧ w.frozen? ⟨b, k * 2 + 1, none⟩ = false := by
  have hl : ((flatR R).getD i []).length = (R.getD i []).length * 2 := by rw [flatR_row, flatL_length]
  obtain ⟨⟨v0, hc0, hr0⟩, f0⟩ := h.cell hi hv (k := k * 2) (by omega)
  obtain ⟨⟨v1, hc1, hr1⟩, f1⟩ := h.cell hi hv (k := k * 2 + 1) (by omega)
  unfold at2 at hr0 hr1
  rw [flatR_row, flatL_get0 hk _ ((infW, 0) : LW)] at hr0
  rw [flatR_row, flatL_get1 hk _ ((infW, 0) : LW)] at hr1
  obtain ⟨rfl, _⟩ := hr0
  obtain ⟨A, na, ca, rfl, h6, h7⟩ := hr1
  exact ⟨A, na, ca, hc0, hc1, h6, h7, f0, f1⟩
end
end Go.Proofs.Ytjadgomakoaibaa
