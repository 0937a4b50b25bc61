/- The walks of the two functions that look at a layered graph's shape. -/
import Derived.Test.YtonimfogmplgdaaSemi
import Derived.BigQuiet
namespace Go.Proofs.Ytonimfogmplgdaa
open Go.RowKit

abbrev EdgeT := Int × Int × Int
/-- The slice value '.slice A n c' reads as the ints zs. -/
structure RdI (w : World) (A : Option Addr) (n c : Nat) (zs : List Int) : Prop where
  len : zs.length = n
  cap : n ≤ c
  max : c ≤ maxLen
  wide : ∀ z ∈ zs, -9223372036854775808 ≤ z ∧ z ≤ 9223372036854775807
  cells : 0 < n → ∃ b off, A = some ⟨b, off, none⟩ ∧ b < w.heap.size ∧ ∀ j, j < n → w.cell? ⟨b, off + j, none⟩ = some (.int .i64 (zs.getD j 0))
/-- .. as the edges es: three cells an edge. -/
structure RdE (w : World) (A : Option Addr) (n c : Nat) (es : List EdgeT) : Prop where
  len : es.length = n
  cap : n ≤ c
  max : c ≤ maxLen
  cells : 0 < n → ∃ b off, A = some ⟨b, off, none⟩ ∧ b < w.heap.size ∧ ∀ j, j < n → w.cell? ⟨b, off + j * 3, none⟩ = some (.int .i64 (es.getD j (0, 0, 0)).1) ∧
    w.cell? ⟨b, off + j * 3 + 1, none⟩ = some (.int .i64 (es.getD j (0, 0, 0)).2.1) ∧ w.cell? ⟨b, off + j * 3 + 2, none⟩ = some (.int .i64 (es.getD j (0, 0, 0)).2.2)
/-- .. as lists of edges. -/
structure RdEE (w : World) (A : Option Addr) (n c : Nat) (ee : List (List EdgeT)) : Prop where
  len : ee.length = n
  cap : n ≤ c
  max : c ≤ maxLen
  short : ∀ l ∈ ee, l.length ≤ 35184372088832
  cells : 0 < n → ∃ b off, A = some ⟨b, off, none⟩ ∧ b < w.heap.size ∧ ∀ j, j < n → ∃ Aj nj cj, w.cell? ⟨b, off + j, none⟩ = some (.slice Aj nj cj) ∧ RdE w Aj nj cj (ee.getD j [])
section
variable {w w' : World} {A : Option Addr} {n c : Nat}
theorem RdI.below {zs : List Int} (h : RdI w A n c zs) (hb : Below w.heap.size w w') : RdI w' A n c zs :=
  ⟨h.len, h.cap, h.max, h.wide, fun hn => by
    obtain ⟨b, off, e, hlt, hc⟩ := h.cells hn
    exact ⟨b, off, e, Nat.lt_of_lt_of_le hlt hb.size, fun j hj => (hb.cell (p := ⟨b, off + j, none⟩) hlt).trans (hc j hj)⟩⟩
theorem RdE.below {es : List EdgeT} (h : RdE w A n c es) (hb : Below w.heap.size w w') : RdE w' A n c es :=
  ⟨h.len, h.cap, h.max, fun hn => by
    obtain ⟨b, off, e, hlt, hc⟩ := h.cells hn
    refine ⟨b, off, e, Nat.lt_of_lt_of_le hlt hb.size, fun j hj => ?_⟩
    obtain ⟨h1, h2, h3⟩ := hc j hj
    exact ⟨(hb.cell (p := ⟨b, off + j * 3, none⟩) hlt).trans h1, (hb.cell (p := ⟨b, off + j * 3 + 1, none⟩) hlt).trans h2, (hb.cell (p := ⟨b, off + j * 3 + 2, none⟩) hlt).trans h3⟩⟩
theorem RdEE.below {ee : List (List EdgeT)} (h : RdEE w A n c ee) (hb : Below w.heap.size w w') : RdEE w' A n c ee :=
  ⟨h.len, h.cap, h.max, h.short, fun hn => by
    obtain ⟨b, off, e, hlt, hc⟩ := h.cells hn
    refine ⟨b, off, e, Nat.lt_of_lt_of_le hlt hb.size, fun j hj => ?_⟩
    obtain ⟨Aj, nj, cj, h1, h2⟩ := hc j hj
    exact ⟨Aj, nj, cj, (hb.cell (p := ⟨b, off + j, none⟩) hlt).trans h1, h2.below hb⟩⟩
theorem RdI.le63 {zs : List Int} (h : RdI w A n c zs) : n ≤ 9223372036854775807 := by
  have := h.cap; have := h.max; unfold maxLen at this; omega
theorem RdEE.le63 {ee : List (List EdgeT)} (h : RdEE w A n c ee) : n ≤ 9223372036854775807 := by
  have := h.cap; have := h.max; unfold maxLen at this; omega
theorem RdE.le63 {es : List EdgeT} (h : RdE w A n c es) : n ≤ 9223372036854775807 := by
  have := h.cap; have := h.max; unfold maxLen at this; omega
theorem RdI.at {zs : List Int} (h : RdI w A n c zs) {k : Nat} (hk : k < n) : ∃ b off, A = some ⟨b, off, none⟩ ∧ b < w.heap.size ∧ w.cell? ⟨b, off + k, none⟩ = some (.int .i64 (zs.getD k 0)) := by
  obtain ⟨b, off, e, hb, hc⟩ := h.cells (by omega)
  exact ⟨b, off, e, hb, hc k hk⟩
theorem RdI.cellAt {zs : List Int} {b off : Nat} (h : RdI w (some ⟨b, off, none⟩) n c zs) {k : Nat} (hk : k < n) : w.cell? ⟨b, off + k, none⟩ = some (.int .i64 (zs.getD k 0)) := by
  obtain ⟨b', off', e, _, hc⟩ := h.cells (by omega)
  simp only [Option.some.injEq, Addr.mk.injEq, and_true] at e
  obtain ⟨rfl, rfl⟩ := e
  exact hc k hk
theorem RdI.bd {zs : List Int} (h : RdI w A n c zs) (k : Nat) : -9223372036854775808 ≤ zs.getD k 0 ∧ zs.getD k 0 ≤ 9223372036854775807 := by
  rw [List.getD_eq_getElem?_getD]
  rcases Nat.lt_or_ge k zs.length with h1 | h1
  · rw [List.getElem?_eq_getElem h1]; exact h.wide _ (List.getElem_mem h1)
  · rw [List.getElem?_eq_none h1]; decide
end

/-! ### what the two compute -/
def narrow (W : List Int) : Bool := W.any fun z => decide (z < 1)
def nodesBad : Int → List Int → Bool
  | _, [] => false
  | s, z :: l => decide (65536 - s < z) || nodesBad (s + z) l
def edgesBad : Nat → List (List EdgeT) → Bool
  | _, [] => false
  | s, l :: ll => decide (262144 < s + l.length) || edgesBad (s + l.length) ll
def badE (W : List Int) (i : Nat) (e : EdgeT) : Bool := decide (e.1 < 0) || decide (W.getD i 0 ≤ e.1) || decide (e.2.2 < 0) || decide (W.getD (i + 1) 0 ≤ e.2.2)
def badL (W : List Int) (i : Nat) (l : List EdgeT) : Bool := l.any (badE W i)
def badFrom (W : List Int) : Nat → List (List EdgeT) → Bool
  | _, [] => false
  | i, l :: ll => badL W i l || badFrom W (i + 1) ll
def misfit (W : List Int) (ee : List (List EdgeT)) : Prop := 64 < ee.length ∨ W.length ≠ ee.length + 1
instance (W : List Int) (ee : List (List EdgeT)) : Decidable (misfit W ee) := by unfold misfit; infer_instance
def shapeV (W : List Int) (ee : List (List EdgeT)) : Int :=
  if misfit W ee then 3 else if narrow W = true then 6 else if nodesBad 0 W = true then 8 else if edgesBad 0 ee = true then 8 else if badFrom W 0 ee = true then 6 else 0

theorem drop_getD {α : Type} {l : List α} {i : Nat} (d : α) (h : i < l.length) : l.drop i = l.getD i d :: l.drop (i + 1) := by
  rw [List.drop_eq_getElem_cons h, List.getD_eq_getElem?_getD, List.getElem?_eq_getElem h]; rfl
theorem drop_end {α : Type} {l : List α} {i : Nat} (h : l.length ≤ i) : l.drop i = [] := List.drop_eq_nil_of_le h
section
variable {W : List Int} {ee : List (List EdgeT)}
theorem shape_misfit (h : misfit W ee) : shapeV W ee = 3 := if_pos h
theorem shape_narrow (h : ¬ misfit W ee) (h1 : narrow W = true) : shapeV W ee = 6 := by unfold shapeV; rw [if_neg h, if_pos h1]
theorem shape_nodes (h : ¬ misfit W ee) (h1 : narrow W = false) (h2 : nodesBad 0 W = true) : shapeV W ee = 8 := by unfold shapeV; rw [if_neg h, if_neg (by rw [h1]; decide), if_pos h2]
theorem shape_edges (h : ¬ misfit W ee) (h1 : narrow W = false) (h2 : nodesBad 0 W = false) (h3 : edgesBad 0 ee = true) : shapeV W ee = 8 := by
  unfold shapeV; rw [if_neg h, if_neg (by rw [h1]; decide), if_neg (by rw [h2]; decide), if_pos h3]
theorem shape_bad (h : ¬ misfit W ee) (h1 : narrow W = false) (h2 : nodesBad 0 W = false) (h3 : edgesBad 0 ee = false) (h4 : badFrom W 0 ee = true) : shapeV W ee = 6 := by
  unfold shapeV; rw [if_neg h, if_neg (by rw [h1]; decide), if_neg (by rw [h2]; decide), if_neg (by rw [h3]; decide), if_pos h4]
theorem shape_ok (h : ¬ misfit W ee) (h1 : narrow W = false) (h2 : nodesBad 0 W = false) (h3 : edgesBad 0 ee = false) (h4 : badFrom W 0 ee = false) : shapeV W ee = 0 := by
  unfold shapeV; rw [if_neg h, if_neg (by rw [h1]; decide), if_neg (by rw [h2]; decide), if_neg (by rw [h3]; decide), if_neg (by rw [h4]; decide)]
theorem shape_nil : shapeV [] [] = 3 := by decide
theorem narrow_cons (z : Int) (l : List Int) : narrow (z :: l) = (decide (z < 1) || narrow l) := by simp [narrow]
theorem narrow_getD {i : Nat} (h : narrow W = false) (hi : i < W.length) : 1 ≤ W.getD i 0 := by
  unfold narrow at h
  rw [List.any_eq_false] at h
  have := h (W.getD i 0) (by rw [List.getD_eq_getElem?_getD, List.getElem?_eq_getElem hi]; exact List.getElem_mem hi)
  simp only [decide_eq_true_eq] at this
  omega
theorem badL_cons (i : Nat) (e : EdgeT) (l : List EdgeT) : badL W i (e :: l) = (badE W i e || badL W i l) := by simp [badL]
end

end Go.Proofs.Ytonimfogmplgdaa
