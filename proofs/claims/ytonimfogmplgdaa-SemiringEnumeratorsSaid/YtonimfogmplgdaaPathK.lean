/- What the walks over layered graphs share: boxes, cells that stay, a new row of a grid. -/
import Derived.Test.YtonimfogmplgdaaGridRows
import Derived.Test.YtonimfogmplgdaaMono
namespace Go.Proofs.Ytonimfogmplgdaa
open Go.RowKit
theorem cAdd_range (a b : Int) : 0 ≤ cAdd a b ∧ cAdd a b ≤ 4611686018427387904 := by
  have h1 := cCost_range a
  have h2 := cCost_range b
  unfold cAdd
  omega
theorem cMul_comm (a b : Int) : cMul a b = cMul b a := by unfold cMul; rw [Int.add_comm]
/-- One step of a sum over the costs. -/
def upI (l s v : Int) : Int := cAdd l (cMul s v)
/-- A call that returns a grid of its own, and no error. -/
def RetGridE {α : Type} (C : Cells α) (d : α) (er e : TypeId) (size : Nat) (R : List (List α)) (w : World) (x : Ending) (w' : World) : Prop :=
  ∃ G n c vs, x = .returned (.tuple #[.slice G n c, .int .i64 0]) ∧ GridR C d w' w.heap.size er e size G n c vs R ∧ Below w.heap.size w w'
/-- A cell that stays. -/
theorem stays {W : World} {b o : Nat} {v : Value} (h : W.cell? ⟨b, o, none⟩ = some v) (w' : World) : From W w' → w'.cell? ⟨b, o, none⟩ = some v := fun hF => (hF.out.cell (p := ⟨b, o, none⟩) (World.block_lt_of_cell? W _ h)).trans h
theorem staysF {W : World} {b o : Nat} {v : Value} (h : W.cell? ⟨b, o, none⟩ = some v) (hf : W.frozen? ⟨b, o, none⟩ = false) (w' : World) : From W w' → w'.frozen? ⟨b, o, none⟩ = false := fun hF => (hF.out.frozen (p := ⟨b, o, none⟩) (World.block_lt_of_cell? W _ h)).trans hf

/-- A new row comes into a grid. -/
theorem GridR.putNew {α : Type} {C : Cells α} {d : α} {w w' : World} {base : Nat} {er e : TypeId} {size : Nat} {g n c : Nat} {vs : List Value} {R : List (List α)}
    (h : GridR C d w base er e size (some ⟨g, 0, none⟩) n c vs R) {i : Nat} (hi : i < n) (hbase : base ≤ w.heap.size) {m c' : Nat} {xs : List Value} {l : List α} (hl : xs.length = l.length)
    (hv : w'.ownsRow w.heap.size e size (.slice (some ⟨w.heap.size, 0, none⟩) m c') m xs) (hb : Below w.heap.size w w')
    (hold : ∀ x v, C.rel x v w → C.rel x v (w'.setCell ⟨g, i, none⟩ (.slice (some ⟨w.heap.size, 0, none⟩) m c'))) (hnew : ∀ k, k < l.length → C.rel (l.getD k d) (xs.getD k undef) (w'.setCell ⟨g, i, none⟩ (.slice (some ⟨w.heap.size, 0, none⟩) m c'))) :
    GridR C d (w'.setCell ⟨g, i, none⟩ (.slice (some ⟨w.heap.size, 0, none⟩) m c')) base er e size (some ⟨g, 0, none⟩) n c (vs.set i (.slice (some ⟨w.heap.size, 0, none⟩) m c')) (R.set i l) := by
  obtain ⟨rows, g1, g2, g3, g4⟩ := h.ex
  obtain ⟨g', hg', _, hglt⟩ := g1.blk (by omega)
  obtain rfl : g = g' := by injection hg' with h1; injection h1
  have hput := (g1.below hb).put hi (ownsRow_base hv hbase) (fun b hb9 => by
    injection hb9 with hb9
    subst hb9
    refine ⟨by show w.heap.size ≠ g; omega, fun j hj hij e9 => ?_⟩
    obtain ⟨m9, hm9⟩ := g1.inner j hj
    exact absurd (hm9.lt _ e9).2 (Nat.lt_irrefl _))
  refine ⟨_, hput, by rw [List.length_set]; exact g2, fun j hj => ?_, fun j k hj hk => ?_⟩
  · by_cases hij : i = j
    · subst hij
      rw [gset_self _ _ _ (by rw [g1.lenR]; exact hi), gset_self _ _ _ (by omega), hl]
    · rw [gset_ne _ _ _ hij, gset_ne _ _ _ hij]
      exact g3 j hj
  · unfold at2
    by_cases hij : i = j
    · subst hij
      rw [gset_self _ _ _ (by omega)] at hk ⊢
      rw [gset_self _ _ _ (by rw [g1.lenR]; exact hi)]
      exact hnew k hk
    · rw [gset_ne _ _ _ hij] at hk ⊢
      rw [gset_ne _ _ _ hij]
      exact hold _ _ (g4 j k hj hk)
theorem replicate_more {α : Type} (x z : α) {k q : Nat} (h : k < q) : (List.replicate k x ++ List.replicate (q - k) z).set k x = List.replicate (k + 1) x ++ List.replicate (q - (k + 1)) z := by
  obtain ⟨p, hp⟩ : ∃ p, q - k = p + 1 := ⟨q - k - 1, by omega⟩
  have h1 := set_mid (List.replicate k x) z x p
  rw [List.length_replicate] at h1
  rw [hp, h1, show q - (k + 1) = p by omega, List.replicate_succ']
theorem rowsAt_set {α : Type} {W : List Int} {z : α} {i : Nat} (h : i < W.length) : (rowsAt W z i 0).set i (List.replicate (W.getD i 0).toNat z) = rowsAt W z (i + 1) 0 := by
  rw [← rowsAt_next]
  refine rows_ext (by simp [rowsAt_len]) fun j hj => ?_
  rw [List.length_set, rowsAt_len] at hj
  by_cases hij : i = j
  · subst hij
    rw [gset_self _ _ _ (by rw [rowsAt_len]; exact h), rowsAt_row h, if_neg (by omega), if_pos rfl]
  · rw [gset_ne _ _ _ hij, rowsAt_row hj, rowsAt_row hj]
    by_cases h1 : j < i
    · rw [if_pos h1, if_pos h1]
    · rw [if_neg h1, if_neg h1, if_neg (fun e => hij e.symm), if_neg (fun e => hij e.symm)]
theorem cAdd_sum' {l x : Int} (h : 0 ≤ l ∧ l ≤ 4611686018427387904) : cAdd l x = min l (cCost x) := by
  have h1 : cCost l = l := by unfold cCost; omega
  unfold cAdd
  rw [h1]
theorem cAdd_min {l x : Int} {s : Int} (h : 0 ≤ l ∧ l ≤ 4611686018427387904) : cAdd l (cMul s x) = min l (cMul s x) := by
  rw [cAdd_sum' h]
  congr 1
  unfold cMul
  have h1 := cCost_range s
  have h2 := cCost_range x
  generalize cCost s = a at *
  generalize cCost x = b at *
  unfold cCost
  omega
end Go.Proofs.Ytonimfogmplgdaa
