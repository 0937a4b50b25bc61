/- Rows of zeros: the walk of rows. -/
import Derived.Test.YtonimfogmplgdaaSameInts
import Derived.Test.YtonimfogmplgdaaSemi
import Derived.Deep.RegionLaw
import Derived.Deep.AppendLies
namespace Go.Proofs.Ytonimfogmplgdaa
open Go.RowKit

section
variable {α : Type}
/-- The rows below i are whole, row i has k entries. -/
def rowsAt (W : List Int) (z : α) (i k : Nat) : List (List α) := (List.range W.length).map fun j => if j < i then List.replicate (W.getD j 0).toNat z else if j = i then List.replicate k z else []
theorem rowsAt_len (W : List Int) (z : α) (i k : Nat) : (rowsAt W z i k).length = W.length := by simp [rowsAt]
theorem rowsAt_row {W : List Int} {z : α} {i k j : Nat} (h : j < W.length) : (rowsAt W z i k).getD j [] = if j < i then List.replicate (W.getD j 0).toNat z else if j = i then List.replicate k z else [] := by
  simp only [rowsAt, List.getD_eq_getElem?_getD, List.getElem?_map, List.getElem?_range h, Option.map_some, Option.getD_some]
theorem rows_ext {R S : List (List α)} (h : R.length = S.length) (h1 : ∀ j, j < R.length → R.getD j [] = S.getD j []) : R = S := by
  refine List.ext_getElem h fun j h2 h3 => ?_
  have := h1 j h2
  simpa [List.getD_eq_getElem?_getD, h2, h3] using this
theorem rowsAt_zero (W : List Int) (z : α) : rowsAt W z 0 0 = List.replicate W.length [] := by
  refine rows_ext (by simp [rowsAt_len]) fun j hj => ?_
  rw [rowsAt_len] at hj
  rw [rowsAt_row hj]
  simp [List.getD_eq_getElem?_getD, hj]
theorem rowsAt_next {W : List Int} {z : α} {i : Nat} : rowsAt W z i (W.getD i 0).toNat = rowsAt W z (i + 1) 0 := by
  refine rows_ext (by simp [rowsAt_len]) fun j hj => ?_
  rw [rowsAt_len] at hj
  rw [rowsAt_row hj, rowsAt_row hj]
  by_cases h1 : j < i
  · rw [if_pos h1, if_pos (by omega)]
  · by_cases h2 : j = i
    · subst h2
      rw [if_neg h1, if_pos rfl, if_pos (by omega)]
    · rw [if_neg h1, if_neg h2, if_neg (by omega)]
      split <;> rfl
theorem rowsAt_end (W : List Int) (z : α) : rowsAt W z W.length 0 = initR W z := by
  refine rows_ext (by simp [rowsAt_len, initR]) fun j hj => ?_
  rw [rowsAt_len] at hj
  rw [rowsAt_row hj, if_pos hj]
  simp [initR, List.getD_eq_getElem?_getD, hj]
theorem rowsAt_more {W : List Int} {z : α} {i k : Nat} (h : i < W.length) : (rowsAt W z i k).set i ((rowsAt W z i k).getD i [] ++ [z]) = rowsAt W z i (k + 1) := by
  refine rows_ext (by simp [rowsAt_len]) fun j hj => ?_
  rw [List.length_set, rowsAt_len] at hj
  by_cases hij : i = j
  · subst hij
    rw [gset_self _ _ _ (by rw [rowsAt_len]; exact h), rowsAt_row h, rowsAt_row h, if_neg (by omega), if_pos rfl, if_neg (by omega), if_pos rfl, List.replicate_succ']
  · rw [gset_ne _ _ _ hij, rowsAt_row hj, rowsAt_row hj]
    by_cases h1 : j < i
    · rw [if_pos h1, if_pos h1]
    · rw [if_neg h1, if_neg h1, if_neg (fun e => hij e.symm), if_neg (fun e => hij e.symm)]
theorem rowsAt_all {W : List Int} {z d : α} {i k j l : Nat} (h : j < W.length) (hl : l < ((rowsAt W z i k).getD j []).length) : at2 d (rowsAt W z i k) j l = z := by
  unfold at2
  rw [rowsAt_row h] at hl ⊢
  split at hl
  · rename_i h1
    rw [if_pos h1, List.getD_eq_getElem?_getD, List.getElem?_replicate, if_pos (by simpa using hl)]; rfl
  · rename_i h1
    split at hl
    · rename_i h2
      rw [if_neg h1, if_pos h2, List.getD_eq_getElem?_getD, List.getElem?_replicate, if_pos (by simpa using hl)]; rfl
    · simp at hl
end

section
variable {w w' : World} {base : Nat} {er e : TypeId} {size : Nat} {g n c : Nat} {vs : List Value} {rows : List (List Value)}
/-- Behind an append to row i of a grid, once the slice that came out is stored. -/
theorem Grid.appended (h : Grid w base er e size (some ⟨g, 0, none⟩) n c vs rows) {i : Nat} (hi : i < n) {b' m' d' : Nat} {news : List Value}
    (hown : w'.ownsRow base e size (.slice (some ⟨b', 0, none⟩) m' d') m' (rows.getD i [] ++ news)) (hg : w.grownBy w' (vs.getD i undef).ownBlock) (hob : (vs.getD i undef).ownBlock = some b' ∨ b' = w.heap.size) :
    Grid (w'.setCell ⟨g, i, none⟩ (.slice (some ⟨b', 0, none⟩) m' d')) base er e size (some ⟨g, 0, none⟩) n c (vs.set i (.slice (some ⟨b', 0, none⟩) m' d')) (rows.set i (rows.getD i [] ++ news)) ∧
      w'.cell? ⟨g, i, none⟩ = some (vs.getD i undef) ∧ w'.frozen? ⟨g, i, none⟩ = false := by
  have hgO : (Value.slice (some ⟨g, 0, none⟩) n c).ownBlock = some g := rfl
  obtain ⟨g', hg', hgb, hglt⟩ := h.blk (by omega)
  obtain rfl : g = g' := by injection hg' with h1; injection h1
  have hrowi : ∀ b, (vs.getD i undef).ownBlock = some b → b ≠ g := fun b hb e9 => (h.apart i hi b hb).1 (by rw [hgO, e9])
  have hout : w'.ownsRow base er 1 (.slice (some ⟨g, 0, none⟩) n c) n vs := h.outer.kept hg (.inr (by
    rw [hgO]
    cases hv : (vs.getD i undef).ownBlock with
    | none => simp
    | some b => intro e9; injection e9 with e9; exact hrowi b hv e9.symm))
  have hbg : b' ≠ g := by
    rcases hob with h1 | h1
    · exact hrowi b' h1
    · omega
  obtain ⟨hs, hst⟩ := hout.stored i (.slice (some ⟨b', 0, none⟩) m' d')
  have hcell := hout.cellAt i (by omega)
  have hlv := h.lenV
  rw [List.getElem?_eq_getElem (by omega)] at hcell
  have hvi : vs.getD i undef = vs[i]'(by omega) := by rw [List.getD_eq_getElem?_getD, List.getElem?_eq_getElem (by omega)]; rfl
  refine ⟨⟨hs, by rw [List.length_set]; exact h.lenR, fun j hj => ?_, fun j hj b hb => ?_⟩, by rw [hcell, hvi], hout.frozenAt i⟩
  · by_cases hij : i = j
    · subst hij
      rw [gset_self _ _ _ (by omega), gset_self _ _ _ (by rw [h.lenR]; exact hi)]
      exact ⟨m', hown.kept hst (.inr (by simp only [Value.ownBlock, ne_eq, Option.some.injEq]; exact hbg))⟩
    · rw [gset_ne _ _ _ hij, gset_ne _ _ _ hij]
      obtain ⟨m, hm⟩ := h.inner j hj
      have h1 : w'.ownsRow base e size (vs.getD j undef) m (rows.getD j []) := hm.kept hg (by
        cases hv : (vs.getD j undef).ownBlock with
        | none => exact .inl rfl
        | some b =>
          right
          intro e9
          exact hij ((h.apart j hj b hv).2 i hi e9.symm))
      exact ⟨m, h1.kept hst (by
        cases hv : (vs.getD j undef).ownBlock with
        | none => exact .inl rfl
        | some b =>
          right
          intro e9
          injection e9 with e9
          exact (h.apart j hj b hv).1 (by rw [hgO, e9]))⟩
  · have hgn : ∀ x : Nat, x ≠ g → (Value.slice (some ⟨g, 0, none⟩) n c).ownBlock ≠ some x := fun x hx e9 => hx (by injection e9 with e9; exact e9.symm)
    have hnew : ∀ j, j < n → i ≠ j → (vs.getD j undef).ownBlock ≠ some b' := by
      intro j hj hij e9
      rcases hob with h1 | h1
      · exact hij ((h.apart j hj b' e9).2 i hi h1)
      · obtain ⟨m, hm⟩ := h.inner j hj
        have := (hm.lt b' e9).2
        omega
    by_cases hij : i = j
    · subst hij
      rw [gset_self _ _ _ (by omega)] at hb
      injection hb with hb
      subst hb
      refine ⟨hgn _ hbg, fun j' hj' hb' => ?_⟩
      by_cases hij' : i = j'
      · exact hij'.symm
      · rw [gset_ne _ _ _ hij'] at hb'
        exact absurd hb' (hnew j' hj' hij')
    · rw [gset_ne _ _ _ hij] at hb
      obtain ⟨h1, h2⟩ := h.apart j hj b hb
      refine ⟨h1, fun j' hj' hb' => ?_⟩
      by_cases hij' : i = j'
      · subst hij'
        rw [gset_self _ _ _ (by omega)] at hb'
        injection hb' with hb'
        subst hb'
        exact absurd hb (hnew j hj hij)
      · rw [gset_ne _ _ _ hij'] at hb'
        exact h2 j' hj' hb'
end

/-- .. of cells of a kind. -/
theorem GridR.appended {α : Type} {C : Cells α} {d : α} {w w' : World} {base : Nat} {er e : TypeId} {size : Nat} {g n c : Nat} {vs : List Value} {R : List (List α)}
    (h : GridR C d w base er e size (some ⟨g, 0, none⟩) n c vs R) {i : Nat} (hi : i < n) {rows : List (List Value)} (hrows : Grid w base er e size (some ⟨g, 0, none⟩) n c vs rows)
    (hrow : (∀ j, j < n → (rows.getD j []).length = (R.getD j []).length) ∧ ∀ j k, j < n → k < (R.getD j []).length → C.rel (at2 d R j k) ((rows.getD j []).getD k undef) w)
    {b' m' d' : Nat} {news : List Value} {l : List α} (hl : news.length = l.length)
    (hown : w'.ownsRow base e size (.slice (some ⟨b', 0, none⟩) m' d') m' (rows.getD i [] ++ news)) (hg : w.grownBy w' (vs.getD i undef).ownBlock) (hob : (vs.getD i undef).ownBlock = some b' ∨ b' = w.heap.size)
    (hold : ∀ j k v, j < n → k < (R.getD j []).length → C.rel (at2 d R j k) v w → ∀ w2, C.rel (at2 d R j k) v w2)
    (hnew : ∀ k, k < l.length → ∀ w2, C.rel (l.getD k d) (news.getD k undef) w2) :
    GridR C d (w'.setCell ⟨g, i, none⟩ (.slice (some ⟨b', 0, none⟩) m' d')) base er e size (some ⟨g, 0, none⟩) n c (vs.set i (.slice (some ⟨b', 0, none⟩) m' d')) (R.set i (R.getD i [] ++ l)) := by
  have hlen := h.len
  obtain ⟨h1, h2, h3⟩ := hrows.appended hi hown hg hob
  obtain ⟨hr1, hr2⟩ := hrow
  refine ⟨_, h1, by rw [List.length_set]; exact hlen, fun j hj => ?_, fun j k hj hk => ?_⟩
  · by_cases hij : i = j
    · subst hij
      rw [gset_self _ _ _ (by rw [hrows.lenR]; exact hi), gset_self _ _ _ (by omega), List.length_append, List.length_append, hr1 i hi, hl]
    · rw [gset_ne _ _ _ hij, gset_ne _ _ _ hij]
      exact hr1 j hj
  · unfold at2
    by_cases hij : i = j
    · subst hij
      rw [gset_self _ _ _ (by omega)] at hk ⊢
      rw [gset_self _ _ _ (by rw [hrows.lenR]; exact hi)]
      rw [List.length_append] at hk
      have hri := hr1 i hi
      by_cases hkl : k < (R.getD i []).length
      · have e1 : (R.getD i [] ++ l).getD k d = at2 d R i k := by
          unfold at2
          rw [List.getD_eq_getElem?_getD, List.getElem?_append_left hkl, ← List.getD_eq_getElem?_getD]
        have e2 : (rows.getD i [] ++ news).getD k undef = (rows.getD i []).getD k undef := by
          rw [List.getD_eq_getElem?_getD, List.getElem?_append_left (by omega), ← List.getD_eq_getElem?_getD]
        rw [e1, e2]
        exact hold i k _ hi hkl (hr2 i k hi hkl) _
      · have e1 : (R.getD i [] ++ l).getD k d = l.getD (k - (R.getD i []).length) d := by
          rw [List.getD_eq_getElem?_getD, List.getElem?_append_right (by omega), ← List.getD_eq_getElem?_getD]
        have e2 : (rows.getD i [] ++ news).getD k undef = news.getD (k - (R.getD i []).length) undef := by
          rw [List.getD_eq_getElem?_getD, List.getElem?_append_right (by omega), ← List.getD_eq_getElem?_getD, hri]
        rw [e1, e2]
        exact hnew _ (by omega) _
    · rw [gset_ne _ _ _ hij] at hk ⊢
      rw [gset_ne _ _ _ hij]
      exact hold j k _ hj hk (hr2 j k hj hk) _
/-- A grid of empty rows. -/
theorem GridR.made {α : Type} (C : Cells α) (d : α) (w : World) (base : Nat) (er e : TypeId) (size n : Nat) {w' : World}
    (h : w'.ownsRow base er 1 (.slice (some ⟨w.heap.size, 0, none⟩) n n) n (List.replicate n (.slice none 0 0))) :
    GridR C d w' base er e size (some ⟨w.heap.size, 0, none⟩) n n (List.replicate n (.slice none 0 0)) (List.replicate n []) := by
  have e1 : ∀ i, i < n → (List.replicate n (Value.slice none 0 0)).getD i undef = .slice none 0 0 := fun i hi => by simp [List.getD_eq_getElem?_getD, hi]
  have e2 : ∀ i, i < n → (List.replicate n ([] : List Value)).getD i [] = [] := fun i hi => by simp [List.getD_eq_getElem?_getD, hi]
  have e3 : ∀ i, i < n → (List.replicate n ([] : List α)).getD i [] = [] := fun i hi => by simp [List.getD_eq_getElem?_getD, hi]
  refine ⟨List.replicate n [], ⟨h, by simp, fun i hi => ⟨0, ?_⟩, fun i hi b hb => ?_⟩, by simp, fun i hi => by rw [e2 i hi, e3 i hi]; rfl, fun i k hi hk => ?_⟩
  · rw [e1 i hi, e2 i hi]
    exact World.ownsRow_nil _ _ _ _
  · rw [e1 i hi] at hb
    cases hb
  · rw [e3 i hi] at hk
    cases hk
theorem From.also {W w : World} (h : From W w) (o : Obj) : From W (w.alloc o) := h.step (below_alloc w o)
/-- A call that returns a grid of its own. -/
def RetGrid {α : Type} (C : Cells α) (d : α) (er e : TypeId) (size : Nat) (R : List (List α)) (w : World) (x : Ending) (w' : World) : Prop :=
  ∃ G n c vs, x = .returned (.slice G n c) ∧ GridR C d w' w.heap.size er e size G n c vs R ∧ Below w.heap.size w w'
end Go.Proofs.Ytonimfogmplgdaa
