/- More words for memory: a make of limbs; an own row stored into, in the walk's spelling. -/
import Derived.Test.YtlomanhmpbapeaaSame
namespace Go.Proofs.Ytlomanhmpbapeaa
open Go.RowKit

theorem madeCells_u32 (n : Nat) : (madeCells (Value.cells (.int .u32 0)) n).toList = u32s (List.replicate n 0) := by
  rw [u32s_zeros]
  apply List.ext_getElem
  · simp [madeCells]
  · intro i h1 h2
    simp [madeCells, Value.cells, Nat.mod_one]

section
variable {P : Program} (w : World)
theorem wpList_make_rd {ops : Array Oper} {rest : List Oper} {o : Oper} {a : Act} {Q : Exit → Act → World → Prop}
    (hg : o.guard = none) (l c : Operand) (t e : TypeId) (hop : o.op = Op.makeSlice t l c) (i : TypeInfo)
    (h1 : P.underlying t = some (.slice e)) (h2 : P.info? e = some i) (h3 : i.zero = some (.int .u32 0)) (h4 : i.size = 1) (h5 : i.bytes = 4)
    (kl kc : IntKind) (L C : Int) (n : Nat) (hl : a.eval l = .int kl L) (hc : a.eval c = .int kc C) (hL : L = (n : Int)) (hC : C = (n : Int)) (hn : n ≤ 2147483648)
    (hK : ∀ w', Own w' w.heap.size e (some ⟨w.heap.size, 0, none⟩) n n (List.replicate n 0) → Below w.heap.size w w' → wpList P ops Q rest (a.put o.dst (.slice (some ⟨w.heap.size, 0, none⟩) n n)) w') :
    wpList P ops Q (o :: rest) a w := by
  refine wpList_plain hg fun K hK' => ?_
  obtain ⟨w', hrun, r1, r2⟩ := run_make_full (P := P) w w.heap.size t e i (.int .u32 0) 1 h1 h2 h3 h4 kl kc n (by rw [h5]; omega) (by unfold maxLen; omega) (Nat.le_refl _)
  subst hC
  subst hL
  unfold Oper.wp
  simp [execOp, hop, hl, hc, hrun, Result.andThen]
  refine hK' _ _ (hK w' ⟨?_, Lims.replicate n⟩ ((Below.refl _ _).grown r2 (Nat.le_refl _) (fun k hk => by cases hk)))
  rw [← madeCells_u32]
  simpa using r1
end

/-- A store into an own row, the limb as the walk writes it. -/
theorem Own.setInt {w : World} {base : Nat} {e : TypeId} {g n c : Nat} {l : List Nat} (h : Own w base e (some ⟨g, 0, none⟩) n c l) (k : Nat) {x : Nat} {z : Int} (hx : x < 4294967296) (hz : z = (x : Int)) :
    Own (w.setCell ⟨g, k, none⟩ (.int .u32 z)) base e (some ⟨g, 0, none⟩) n c (l.set k x) := by
  subst hz
  exact h.set k hx

theorem Own.drewN {w : World} {base : Nat} {e : TypeId} {A : Option Addr} {n c : Nat} {l : List Nat} (h : Own w base e A n c l) (k : Nat) : Own (w.drewN k) base e A n c l := ⟨h.row, h.lims⟩
theorem Rd.drewN {w : World} {A : Option Addr} {n c : Nat} {l : List Nat} (h : Rd w A n c l) (k : Nat) : Rd (w.drewN k) A n c l := ⟨h.len, h.cap, h.max, h.lims, h.cells⟩
end Go.Proofs.Ytlomanhmpbapeaa
