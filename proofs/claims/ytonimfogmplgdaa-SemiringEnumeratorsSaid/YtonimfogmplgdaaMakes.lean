/- A make of n elements of whatever type; an append of one element to a row of a grid. -/
import Derived.Test.YtonimfogmplgdaaGrid
import Derived.Test.YtonimfogmplgdaaSame
import Derived.Maps.AppendAt
namespace Go.Proofs.Ytonimfogmplgdaa
open Go.RowKit

section
variable {P : Program} (w : World)
theorem wpList_make_row {ops : Array Oper} {rest : List Oper} {o : Oper} {a : Act} {Q : Exit → Act → World → Prop}
    (hg : o.guard = none) (l c : Operand) (t e : TypeId) (hop : o.op = Op.makeSlice t l c) (i : TypeInfo) (z : Value) (size bytes : Nat)
    (h1 : P.underlying t = some (.slice e)) (h2 : P.info? e = some i) (h3 : i.zero = some z) (h4 : i.size = size) (h5 : i.bytes = bytes)
    (kl kc : IntKind) (L C : Int) (n : Nat) (hl : a.eval l = .int kl L) (hc : a.eval c = .int kc C) (hL : L = (n : Int)) (hC : C = (n : Int)) (hn : n * bytes ≤ 281474976710656) (hm : n ≤ maxLen)
    (hK : ∀ w', w'.ownsRow w.heap.size e size (.slice (some ⟨w.heap.size, 0, none⟩) n n) n (madeCells z.cells (n * size)).toList → Below w.heap.size w w' → wpList P ops Q rest (a.put o.dst (.slice (some ⟨w.heap.size, 0, none⟩) n n)) w') :
    wpList P ops Q (o :: rest) a w := by
  refine wpList_plain hg fun K hK' => ?_
  obtain ⟨w', hrun, r1, r2⟩ := run_make_full (P := P) w w.heap.size t e i z size h1 h2 h3 h4 kl kc n (by rw [h5, Nat.mul_comm]; omega) hm (Nat.le_refl _)
  subst hC
  subst hL
  unfold Oper.wp
  simp [execOp, hop, hl, hc, hrun, Result.andThen]
  exact hK' _ _ (hK w' r1 ((Below.refl _ _).grown r2 (Nat.le_refl _) (fun k hk => by cases hk)))
end
theorem madeCells_one {z : Value} (h : z.cells = #[z]) (n : Nat) : (madeCells z.cells (n * 1)).toList = List.replicate n z := by
  apply List.ext_getElem
  · simp [madeCells]
  · intro i h1 h2
    simp [madeCells, h, Nat.mod_one]
theorem Below.block_lt {B : Nat} {w w' : World} (h : Below B w w') : w.heap.size ≤ w'.heap.size := h.size
end Go.Proofs.Ytonimfogmplgdaa
