/- The walks of the rational operations. -/
import Derived.Test.YtfggecdgnidhfaaDoorRat
import Derived.Test.YtfggecdgnidhfaaDoorSemi
import Derived.Deep.CutRange
import Derived.Deep.RegionHeld3
namespace Go.Proofs.YtfggecdgnidhfaaDoor
open Go.RowKit

/-- A struct variable of a rational, in block g. -/
def BoxQ (w : World) (g : Nat) (s : Bool) (A : Option Addr) (n c : Nat) (B : Option Addr) (m d : Nat) : Prop :=
  w.heap[g]? = some (.cells #[.bool s, .slice A n c, .slice B m d] 33) ∧ g < w.heap.size
section
variable {w w' W : World} {s : Bool} {A B : Option Addr} {n c m d K g : Nat} {q : Rat} {l k : List Nat}
theorem BoxQ.new (w : World) (s : Bool) (A : Option Addr) (n c : Nat) (B : Option Addr) (m d : Nat) : BoxQ (w.alloc (.cells #[.bool s, .slice A n c, .slice B m d] 33)) w.heap.size s A n c B m d := ⟨heap_alloc_new w _, by simp⟩
theorem BoxQ.below (h : BoxQ w g s A n c B m d) (hb : Below w.heap.size w w') : BoxQ w' g s A n c B m d := ⟨(hb.block g h.2).trans h.1, Nat.lt_of_lt_of_le h.2 hb.size⟩
theorem BoxQ.later (h : BoxQ W g s A n c B m d) (hb : From W w') : BoxQ w' g s A n c B m d := h.below hb
theorem BoxQ.cells (h : BoxQ w g s A n c B m d) : w.cell? ⟨g, 0, none⟩ = some (.bool s) ∧ w.cell? ⟨g, 1, none⟩ = some (.slice A n c) ∧ w.cell? ⟨g, 2, none⟩ = some (.slice B m d) := by
  refine ⟨?_, ?_, ?_⟩ <;> (rw [cell_of_row _ _ _ _ _ _ h.1]; rfl)
theorem BoxQ.free (h : BoxQ w g s A n c B m d) : w.frozen? ⟨g, 0, none⟩ = false ∧ w.frozen? ⟨g, 1, none⟩ = false ∧ w.frozen? ⟨g, 2, none⟩ = false := by
  simp [World.frozen?, h.1]
theorem BoxQ.noNum (h : BoxQ w g s A n c B m d) : NoNum w g := .of h.1
theorem From.alloc (h : From W w) (o : Obj) : From W (w.alloc o) := h.step (below_alloc w o)
theorem RdL.up {ll : List (List Nat)} (hb : Below w.heap.size w w') (h : RdL w A n c ll) : RdL w' A n c ll := h.below hb
theorem RdL.upAlloc {ll : List (List Nat)} {o : Obj} (h : RdL w A n c ll) : RdL (w.alloc o) A n c ll := h.below (below_alloc w o)
theorem Rd.upAlloc {o : Obj} (h : Rd w A n c l) : Rd (w.alloc o) A n c l := h.below (below_alloc w o)
theorem RdL.drew {ll : List (List Nat)} (h : RdL w A n c ll) : RdL w.drew A n c ll :=
  ⟨h.len, h.cap, h.max, fun hn => by
    obtain ⟨b, off, e, hlt, hc⟩ := h.cells hn
    refine ⟨b, off, e, hlt, fun j hj => ?_⟩
    obtain ⟨Aj, nj, cj, h1, h2⟩ := hc j hj
    exact ⟨Aj, nj, cj, h1, h2.drew⟩⟩
theorem rdl_two' {g : Nat} (hg : g = w.heap.size) (h : Rd w A n c l) (h' : Rd w B m d k) : RdL (w.alloc (.cells #[.slice A n c, .slice B m d] 23)) (some ⟨g, 0, none⟩) 2 2 [l, k] := by
  subst hg; exact rdl_two 23 h h'
/-- Only block g may have been written, of the blocks of W. -/
def Only (g : Nat) (W w' : World) : Prop := W.grownBy w' (some g)
theorem From.only {g : Nat} (h : From W w) : Only g W w := ⟨h.os, h.tape, h.output, h.size, fun i hi _ => h.block i hi⟩
theorem Only.drew (h : Only g W w) : Only g W w.drew := ⟨h.os, h.tape, h.output, h.size, h.block⟩
theorem Only.alloc {o : Obj} (h : Only g W w) : Only g W (w.alloc o) :=
  ⟨h.os, h.tape, h.output, Nat.le_trans h.size (by simp), fun i hi hne => (Below.heap_alloc w o i (Nat.lt_of_lt_of_le hi h.size)).trans (h.block i hi hne)⟩
theorem Only.set {k' : Nat} {u : Value} (h : Only g W w) : Only g W (w.setCell ⟨g, k', none⟩ u) := only_setCell h u
theorem Only.bel {b : Nat} (h : Only g W w) {w0 : World} (hb : Below b w0 W) (h1 : b ≤ W.heap.size) (h2 : b ≤ g) : Below b w0 w := hb.grown h h1 (fun k hk => by injection hk with hk; omega)
theorem BoxQ.only {g' : Nat} (h : BoxQ W g s A n c B m d) (ho : Only g' W w') (hne : g ≠ g') : BoxQ w' g s A n c B m d := ⟨(ho.block g h.2 (by simpa using hne)).trans h.1, Nat.lt_of_lt_of_le h.2 ho.size⟩
theorem CanQ.drew (h : CanQ w A n c B m d q K) : CanQ w.drew A n c B m d q K := ⟨h.num.drew, h.den.drew, h.hn, h.hm⟩
theorem CanQ.store3 {a b e : Value} (h : CanQ w A n c B m d q K) (hno : NoNum w g) : CanQ (((w.setCell ⟨g, 0, none⟩ a).setCell ⟨g, 1, none⟩ b).setCell ⟨g, 2, none⟩ e) A n c B m d q K := h.far (only3 w g a b e) hno
theorem Rd.store3 {a b e : Value} (h : Rd w A n c l) (hno : NoNum w g) : Rd (((w.setCell ⟨g, 0, none⟩ a).setCell ⟨g, 1, none⟩ b).setCell ⟨g, 2, none⟩ e) A n c l := h.far (only3 w g a b e) hno
theorem CanQ.upAlloc {o : Obj} (h : CanQ w A n c B m d q K) : CanQ (w.alloc o) A n c B m d q K := h.below (below_alloc w o)
theorem RawQ.drew (h : RawQ w s A n c B m d q K) : RawQ w.drew s A n c B m d q K := by
  obtain ⟨⟨ln, ld, h1, h2, h3⟩, hn, hm⟩ := h
  exact ⟨⟨ln, ld, h1.drew, h2.drew, h3⟩, hn, hm⟩
theorem RawQ.upAlloc {o : Obj} (h : RawQ w s A n c B m d q K) : RawQ (w.alloc o) s A n c B m d q K := h.below (below_alloc w o)
theorem canonical_eq {r : Rat} (h : Rd w A n c l) (h' : Rd w B m d k) (e : ratOf s (val l) (val k) = r) (hn : n ≤ K) (hm : m ≤ K) (hK1 : 1 ≤ K) (hK : K ≤ 10000) :
    Calls Tryd.prog 34 #[.bool s, .slice A n c, .slice B m d] w (RetQ r K w) := by
  subst e
  exact canonical_any s A n c l B m d k w h h' K hn hm hK1 hK
theorem plus_same {s : Bool} {p q : Rat} (hs : s = qneg p) (ht : s = qneg q) : ratOf s (p.num.natAbs * q.den + q.num.natAbs * p.den) (p.den * q.den) = p + q := by
  rw [ratOf_add_same s _ _ p.den_nz q.den_nz]
  conv => lhs; arg 1; rw [hs, ratOf_self]
  rw [ht, ratOf_self]
theorem plus_left {s t : Bool} {p q : Rat} (hs : s = qneg p) (ht : t = qneg q) (hne : s ≠ t) (h : q.num.natAbs * p.den ≤ p.num.natAbs * q.den) : ratOf s (p.num.natAbs * q.den - q.num.natAbs * p.den) (p.den * q.den) = p + q := by
  rw [ratOf_add_left s _ _ p.den_nz q.den_nz h]
  have e : (!s) = t := by cases s <;> cases t <;> simp_all
  rw [e]
  conv => lhs; arg 1; rw [hs, ratOf_self]
  rw [ht, ratOf_self]
theorem plus_right {s t : Bool} {p q : Rat} (hs : s = qneg p) (ht : t = qneg q) (hne : s ≠ t) (h : p.num.natAbs * q.den ≤ q.num.natAbs * p.den) : ratOf t (q.num.natAbs * p.den - p.num.natAbs * q.den) (p.den * q.den) = p + q := by
  have e : (!s) = t := by cases s <;> cases t <;> simp_all
  rw [← e, ratOf_add_right s _ _ p.den_nz q.den_nz h]
  conv => lhs; arg 1; rw [hs, ratOf_self]
  rw [e, ht, ratOf_self]
end

end Go.Proofs.YtfggecdgnidhfaaDoor
