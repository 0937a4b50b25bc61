/- The walks of valued, Counts, Fits: whether the values fit the layered graph. -/
import Derived.Test.YtonimfogmplgdaaShape
import Derived.Test.YtonimfogmplgdaaPathM
import Derived.Test.YtonimfogmplgdaaMakes
namespace Go.Proofs.Ytonimfogmplgdaa
open Go.RowKit

theorem From.lasts {W : World} : ∀ w w', Below w.heap.size w w' → From W w → From W w' := fun _ _ hb h => From.step h hb
/-- The slice reads as slices of these lengths. -/
structure RdLens (w : World) (A : Option Addr) (n c : Nat) (lens : List Nat) : Prop where
  len : lens.length = n
  cap : n ≤ c
  max : c ≤ maxLen
  cells : 0 < n → ∃ b off, A = some ⟨b, off, none⟩ ∧ b < w.heap.size ∧ ∀ i, i < n → ∃ Ai e, w.cell? ⟨b, off + i, none⟩ = some (.slice Ai (lens.getD i 0) e) ∧ lens.getD i 0 ≤ 9223372036854775807
theorem RdLens.below {w w' : World} {A : Option Addr} {n c : Nat} {lens : List Nat} (h : RdLens w A n c lens) (hb : Below w.heap.size w w') : RdLens w' A n c lens :=
  ⟨h.len, h.cap, h.max, fun hn => by
    obtain ⟨b, off, e, hlt, hc⟩ := h.cells hn
    refine ⟨b, off, e, Nat.lt_of_lt_of_le hlt hb.size, fun i hi => ?_⟩
    obtain ⟨Ai, e', h1, h2⟩ := hc i hi
    exact ⟨Ai, e', (hb.cell (p := ⟨b, off + i, none⟩) hlt).trans h1, h2⟩⟩
theorem RdLens.le63 {w : World} {A : Option Addr} {n c : Nat} {lens : List Nat} (h : RdLens w A n c lens) : n ≤ 9223372036854775807 := by
  have := h.cap; have := h.max; unfold maxLen at this; omega
theorem RdR.lens {α : Type} {C : Cells α} {d : α} {w : World} {A : Option Addr} {n c : Nat} {R : List (List α)} (h : RdR C d w 1 A n c R) : RdLens w A n c (R.map List.length) :=
  ⟨by simp [h.len], h.cap, h.max, fun hn => by
    obtain ⟨b, off, e, hlt, hc⟩ := h.cells hn
    refine ⟨b, off, e, hlt, fun i hi => ?_⟩
    obtain ⟨Ai, m, e', h1, h2⟩ := hc i hi
    have h3 : (R.map List.length).getD i 0 = m := by
      have h4 := h2.len
      rw [List.getD_eq_getElem?_getD, List.getElem?_eq_getElem (by rw [h.len]; exact hi)] at h4
      rw [List.getD_eq_getElem?_getD, List.getElem?_eq_getElem (by simp [h.len, hi])]
      simp at h4 ⊢
      exact h4
    rw [h3]
    exact ⟨Ai, e', h1, h2.le63⟩⟩


theorem set_mid {α : Type} (a : List α) (z x : α) (n : Nat) : (a ++ List.replicate (n + 1) z).set a.length x = (a ++ [x]) ++ List.replicate n z := by
  rw [List.set_append_right _ _ (Nat.le_refl _), Nat.sub_self, List.replicate_succ, List.set_cons_zero, List.append_assoc]; rfl
def natI (l : List Nat) : List Int := l.map fun x : Nat => (x : Int)
/-- A call that returns ints in a row of its own. -/
def RetI (zs : List Int) (w : World) (x : Ending) (w' : World) : Prop := ∃ A n c, x = .returned (.slice A n c) ∧ RdI w' A n c zs ∧ Below w.heap.size w w'
/-- Ints that are read. -/
def IsI (zs : List Int) (v : Value) (w : World) : Prop := ∃ A n c, v = .slice A n c ∧ RdI w A n c zs
theorem IsI.lasting {zs : List Int} : ∀ v w w', Below w.heap.size w w' → IsI zs v w → IsI zs v w' := fun _ _ _ hb ⟨A, n, c, h1, h2⟩ => ⟨A, n, c, h1, h2.below hb⟩
def i64s (l : List Nat) : List Value := l.map fun x : Nat => Value.int .i64 (Int.ofNat x)
theorem rdi_of_own {w : World} {base : Nat} {e : TypeId} {A : Option Addr} {n c : Nat} {lens : List Nat} (h : w.ownsRow base e 1 (.slice A n c) n (i64s lens)) (hl : ∀ x ∈ lens, x ≤ 9223372036854775807) : RdI w A n c (natI lens) := by
  have hlen : lens.length = n := by have := h.1; simpa [i64s] using this
  rcases ownsRow_form h with ⟨h1, h2, h3⟩ | ⟨b, c', h1, h2, h3, h4, h5⟩
  · simp only [Value.slice.injEq] at h1
    obtain ⟨rfl, rfl, rfl⟩ := h1
    exact ⟨by simp [natI, hlen], Nat.le_refl _, Nat.zero_le _, fun z hz => by
      obtain ⟨x, hx, rfl⟩ := List.mem_map.1 hz
      have := hl x hx
      omega, fun h9 => absurd h9 (by omega)⟩
  · simp only [Value.slice.injEq, true_and] at h1
    obtain ⟨rfl, rfl⟩ := h1
    refine ⟨by simp [natI, hlen], h4, h5, fun z hz => ?_, fun _ => ⟨b, 0, rfl, h3, fun j hj => ?_⟩⟩
    · obtain ⟨x, hx, rfl⟩ := List.mem_map.1 hz
      have := hl x hx
      omega
    · rw [Nat.zero_add, h.cellAt j (by omega)]
      simp [i64s, natI, List.getD_eq_getElem?_getD, show j < lens.length by omega]

theorem Try.infoInt : (Try.prog.info? 3).map (fun i => (i.zero, i.size, i.bytes)) = some (some (.int .i64 0), 1, 8) := by kernel_rfl
theorem natI_getD (lens : List Nat) (i : Nat) : (natI lens).getD i 0 = ((lens.getD i 0 : Nat) : Int) := by
  simp only [natI, List.getD_eq_getElem?_getD, List.getElem?_map]
  cases lens[i]? <;> rfl
end Go.Proofs.Ytonimfogmplgdaa
