/- Lists of rationals in memory, and the walk of the law's look at lengths. -/
import Derived.Test.YtfggecdgnidhfaaDoorRatMake
namespace Go.Proofs.YtfggecdgnidhfaaDoor
open Go.RowKit

/-- A rational as data: its sign, its numerator's and its denominator's limbs. -/
abbrev RatT := Bool × List Nat × List Nat
def ratT (t : RatT) : Rat := ratOf t.1 (val t.2.1) (val t.2.2)
/-- The struct value '.agg #[..]' reads as t. -/
def RdT (w : World) (t : RatT) (A : Option Addr) (n c : Nat) (B : Option Addr) (m d : Nat) : Prop := Rd w A n c t.2.1 ∧ Rd w B m d t.2.2
/-- A slice of rationals: three cells each. -/
structure RawL (w : World) (A : Option Addr) (n c : Nat) (ts : List RatT) : Prop where
  len : ts.length = n
  cap : n ≤ c
  max : c ≤ maxLen
  cells : 0 < n → ∃ b off, A = some ⟨b, off, none⟩ ∧ b < w.heap.size ∧ ∀ j, j < n → ∃ An nn cn Ad nd cd, w.cell? ⟨b, off + j * 3, none⟩ = some (.bool (ts.getD j (false, [], [])).1) ∧ w.cell? ⟨b, off + j * 3 + 1, none⟩ = some (.slice An nn cn) ∧
    w.cell? ⟨b, off + j * 3 + 2, none⟩ = some (.slice Ad nd cd) ∧ Rd w An nn cn (ts.getD j (false, [], [])).2.1 ∧ Rd w Ad nd cd (ts.getD j (false, [], [])).2.2
section
variable {w w' : World} {A B : Option Addr} {n c m d K : Nat} {ts : List RatT}
theorem RawL.below (h : RawL w A n c ts) (hb : Below w.heap.size w w') : RawL w' A n c ts :=
  ⟨h.len, h.cap, h.max, fun hn => by
    obtain ⟨b, off, e, hlt, hc⟩ := h.cells hn
    refine ⟨b, off, e, Nat.lt_of_lt_of_le hlt hb.size, fun j hj => ?_⟩
    obtain ⟨An, nn, cn, Ad, nd, cd, h1, h2, h3, h4, h5⟩ := hc j hj
    exact ⟨An, nn, cn, Ad, nd, cd, (hb.cell (p := ⟨b, off + j * 3, none⟩) hlt).trans h1, (hb.cell (p := ⟨b, off + j * 3 + 1, none⟩) hlt).trans h2, (hb.cell (p := ⟨b, off + j * 3 + 2, none⟩) hlt).trans h3, h4.below hb, h5.below hb⟩⟩
theorem RawL.up (hb : Below w.heap.size w w') (h : RawL w A n c ts) : RawL w' A n c ts := h.below hb
theorem RawL.upAlloc {o : Obj} (h : RawL w A n c ts) : RawL (w.alloc o) A n c ts := h.below (below_alloc w o)
theorem RawL.drew (h : RawL w A n c ts) : RawL w.drew A n c ts :=
  ⟨h.len, h.cap, h.max, fun hn => by
    obtain ⟨b, off, e, hlt, hc⟩ := h.cells hn
    refine ⟨b, off, e, hlt, fun j hj => ?_⟩
    obtain ⟨An, nn, cn, Ad, nd, cd, h1, h2, h3, h4, h5⟩ := hc j hj
    exact ⟨An, nn, cn, Ad, nd, cd, h1, h2, h3, h4.drew, h5.drew⟩⟩
theorem RawL.le63 (h : RawL w A n c ts) : n ≤ 9223372036854775807 := by
  have := h.cap; have := h.max; unfold maxLen at this; omega
theorem RawL.nil (w : World) : RawL w none 0 0 [] := ⟨rfl, Nat.le_refl _, Nat.zero_le _, fun h => absurd h (by omega)⟩
/-- Lists that are written out. -/
theorem rawl_one {s : Bool} {ln ld : List Nat} {g : Nat} (hg : g = w.heap.size) (h : Rd w A n c ln) (h' : Rd w B m d ld) :
    RawL (w.alloc (.cells #[.bool s, .slice A n c, .slice B m d] 33)) (some ⟨g, 0, none⟩) 1 1 [(s, ln, ld)] := by
  subst hg
  refine ⟨rfl, Nat.le_refl _, by decide, fun _ => ⟨w.heap.size, 0, rfl, by simp, fun j hj => ?_⟩⟩
  obtain rfl : j = 0 := by omega
  refine ⟨A, n, c, B, m, d, ?_, ?_, ?_, h.below (below_alloc w _), h'.below (below_alloc w _)⟩ <;> (rw [cell_of_row _ _ _ _ _ _ (heap_alloc_new w _)]; rfl)
theorem rawl_two {s : Bool} {ln ld : List Nat} {A2 B2 : Option Addr} {n2 c2 m2 d2 : Nat} {t : Bool} {kn kd : List Nat} {g : Nat} (hg : g = w.heap.size) (h : Rd w A n c ln) (h' : Rd w B m d ld) (k : Rd w A2 n2 c2 kn) (k' : Rd w B2 m2 d2 kd) :
    RawL (w.alloc (.cells #[.bool s, .slice A n c, .slice B m d, .bool t, .slice A2 n2 c2, .slice B2 m2 d2] 33)) (some ⟨g, 0, none⟩) 2 2 [(s, ln, ld), (t, kn, kd)] := by
  subst hg
  refine ⟨rfl, Nat.le_refl _, by decide, fun _ => ⟨w.heap.size, 0, rfl, by simp, fun j hj => ?_⟩⟩
  rcases (show j = 0 ∨ j = 1 by omega) with rfl | rfl
  · refine ⟨A, n, c, B, m, d, ?_, ?_, ?_, h.below (below_alloc w _), h'.below (below_alloc w _)⟩ <;> (rw [cell_of_row _ _ _ _ _ _ (heap_alloc_new w _)]; rfl)
  · refine ⟨A2, n2, c2, B2, m2, d2, ?_, ?_, ?_, k.below (below_alloc w _), k'.below (below_alloc w _)⟩ <;> (rw [cell_of_row _ _ _ _ _ _ (heap_alloc_new w _)]; rfl)
theorem rawl_three {s : Bool} {ln ld : List Nat} {A2 B2 : Option Addr} {n2 c2 m2 d2 : Nat} {t : Bool} {kn kd : List Nat} {A3 B3 : Option Addr} {n3 c3 m3 d3 : Nat} {u : Bool} {jn jd : List Nat} {g : Nat} (hg : g = w.heap.size)
    (h : Rd w A n c ln) (h' : Rd w B m d ld) (k : Rd w A2 n2 c2 kn) (k' : Rd w B2 m2 d2 kd) (i : Rd w A3 n3 c3 jn) (i' : Rd w B3 m3 d3 jd) :
    RawL (w.alloc (.cells #[.bool s, .slice A n c, .slice B m d, .bool t, .slice A2 n2 c2, .slice B2 m2 d2, .bool u, .slice A3 n3 c3, .slice B3 m3 d3] 33)) (some ⟨g, 0, none⟩) 3 3 [(s, ln, ld), (t, kn, kd), (u, jn, jd)] := by
  subst hg
  refine ⟨rfl, Nat.le_refl _, by decide, fun _ => ⟨w.heap.size, 0, rfl, by simp, fun j hj => ?_⟩⟩
  rcases (show j = 0 ∨ j = 1 ∨ j = 2 by omega) with rfl | rfl | rfl
  · refine ⟨A, n, c, B, m, d, ?_, ?_, ?_, h.below (below_alloc w _), h'.below (below_alloc w _)⟩ <;> (rw [cell_of_row _ _ _ _ _ _ (heap_alloc_new w _)]; rfl)
  · refine ⟨A2, n2, c2, B2, m2, d2, ?_, ?_, ?_, k.below (below_alloc w _), k'.below (below_alloc w _)⟩ <;> (rw [cell_of_row _ _ _ _ _ _ (heap_alloc_new w _)]; rfl)
  · refine ⟨A3, n3, c3, B3, m3, d3, ?_, ?_, ?_, i.below (below_alloc w _), i'.below (below_alloc w _)⟩ <;> (rw [cell_of_row _ _ _ _ _ _ (heap_alloc_new w _)]; rfl)
end

/-- Is one of the rationals longer than that? -/
def anyLongQ (most : Nat) (ts : List RatT) : Bool := ts.any fun t => decide (most < t.2.1.length + t.2.2.length)
theorem anyLongQ_false {most : Nat} {ts : List RatT} (h : anyLongQ most ts = false) : ∀ t ∈ ts, t.2.1.length + t.2.2.length ≤ most := by
  intro t ht
  unfold anyLongQ at h
  rw [List.any_eq_false] at h
  have := h t ht
  simp at this
  exact this
/-- As long as data that came in can be. -/
def Reach (ts : List RatT) : Prop := ∀ t ∈ ts, t.2.1.length ≤ 35184372088832 ∧ t.2.2.length ≤ 35184372088832

end Go.Proofs.YtfggecdgnidhfaaDoor
