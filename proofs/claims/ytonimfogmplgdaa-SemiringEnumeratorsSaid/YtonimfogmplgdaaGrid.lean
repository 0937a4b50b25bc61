/- Rows of the call's own whose slices lie in a row of the call's own (a grid): reading, writing, and what is kept. -/
import Derived.Test.YtonimfogmplgdaaMem
namespace Go.Proofs.Ytonimfogmplgdaa
open Go.RowKit

theorem ownsRow_keep {w w' : World} {base : Nat} {e : TypeId} {size : Nat} {v : Value} {n : Nat} {xs : List Value} (h : w.ownsRow base e size v n xs) {B : Nat} (hb : Below B w w') (hB : w.heap.size ≤ B) : w'.ownsRow base e size v n xs := by
  refine ⟨h.1, ?_⟩
  rcases h.2 with h1 | ⟨g, cap, cur, h1, hbg, hg, r⟩
  · exact .inl h1
  · exact .inr ⟨g, cap, cur, h1, hbg, by rw [hb.block g (Nat.lt_of_lt_of_le (Array.getElem?_eq_some_iff.1 hg).1 hB)]; exact hg, r⟩
theorem ownsRow_base {w : World} {base base' : Nat} {e : TypeId} {size : Nat} {v : Value} {n : Nat} {xs : List Value} (h : w.ownsRow base e size v n xs) (hb : base' ≤ base) : w.ownsRow base' e size v n xs := by
  refine ⟨h.1, ?_⟩
  rcases h.2 with h1 | ⟨g, cap, cur, h1, hbg, r⟩
  · exact .inl h1
  · exact .inr ⟨g, cap, cur, h1, Nat.le_trans hb hbg, r⟩
theorem ownsRow_form {w : World} {base : Nat} {e : TypeId} {size : Nat} {v : Value} {n : Nat} {xs : List Value} (h : w.ownsRow base e size v n xs) :
    (v = .slice none 0 0 ∧ n = 0 ∧ xs = []) ∨ ∃ b c, v = .slice (some ⟨b, 0, none⟩) n c ∧ base ≤ b ∧ b < w.heap.size ∧ n ≤ c ∧ c ≤ maxLen := by
  rcases h.2 with ⟨h1, h2⟩ | ⟨g, cap, cur, h1, hb, hg, hnc, hcm, _⟩
  · subst h2
    exact .inl ⟨h1, rfl, List.eq_nil_of_length_eq_zero (by simpa using h.1)⟩
  · exact .inr ⟨g, cap, h1, hb, (Array.getElem?_eq_some_iff.1 hg).1, hnc, hcm⟩

/-- A grid: the slice G owns the slices vs, each of which owns its cells. -/
structure Grid (w : World) (base : Nat) (er e : TypeId) (size : Nat) (G : Option Addr) (n c : Nat) (vs : List Value) (rows : List (List Value)) : Prop where
  outer : w.ownsRow base er 1 (.slice G n c) n vs
  lenR : rows.length = n
  inner : ∀ i, i < n → ∃ m, w.ownsRow base e size (vs.getD i undef) m (rows.getD i [])
  apart : ∀ i, i < n → ∀ b, (vs.getD i undef).ownBlock = some b → (Value.slice G n c).ownBlock ≠ some b ∧ ∀ j, j < n → (vs.getD j undef).ownBlock = some b → j = i

section
variable {w w' : World} {base : Nat} {er e : TypeId} {size : Nat} {G : Option Addr} {n c : Nat} {vs : List Value} {rows : List (List Value)}

theorem Grid.lenV (h : Grid w base er e size G n c vs rows) : vs.length = n := by
  have := h.outer.1
  omega
theorem Grid.keep (h : Grid w base er e size G n c vs rows) {B : Nat} (hb : Below B w w') (hB : w.heap.size ≤ B) : Grid w' base er e size G n c vs rows :=
  ⟨ownsRow_keep h.outer hb hB, h.lenR, fun i hi => by
    obtain ⟨m, hm⟩ := h.inner i hi
    exact ⟨m, ownsRow_keep hm hb hB⟩, h.apart⟩
theorem Grid.below (h : Grid w base er e size G n c vs rows) (hb : Below w.heap.size w w') : Grid w' base er e size G n c vs rows := h.keep hb (Nat.le_refl _)
theorem Grid.lower (h : Grid w base er e size G n c vs rows) {base' : Nat} (hb : base' ≤ base) : Grid w base' er e size G n c vs rows :=
  ⟨ownsRow_base h.outer hb, h.lenR, fun i hi => by
    obtain ⟨m, hm⟩ := h.inner i hi
    exact ⟨m, ownsRow_base hm hb⟩, h.apart⟩
theorem Grid.drew (h : Grid w base er e size G n c vs rows) : Grid w.drew base er e size G n c vs rows := h.below (Below.refl _ _).drew
theorem Grid.alloc (h : Grid w base er e size G n c vs rows) (o : Obj) : Grid (w.alloc o) base er e size G n c vs rows := h.below (below_alloc w o)

/-- The slice that the grid lies behind. -/
theorem Grid.head (h : Grid w base er e size G n c vs rows) : (G = none ∧ n = 0 ∧ c = 0) ∨ ∃ g, G = some ⟨g, 0, none⟩ ∧ base ≤ g ∧ g < w.heap.size ∧ n ≤ c ∧ c ≤ maxLen := by
  rcases ownsRow_form h.outer with ⟨h1, h2, _⟩ | ⟨b, c', h1, h2, h3, h4, h5⟩
  · simp only [Value.slice.injEq] at h1
    exact .inl ⟨h1.1, h2, h1.2.2⟩
  · simp only [Value.slice.injEq, true_and] at h1
    obtain ⟨rfl, rfl⟩ := h1
    exact .inr ⟨b, rfl, h2, h3, h4, h5⟩
theorem Grid.le63 (h : Grid w base er e size G n c vs rows) : n ≤ 9223372036854775807 := by
  rcases h.head with ⟨_, rfl, _⟩ | ⟨g, _, _, _, h1, h2⟩
  · omega
  · unfold maxLen at h2; omega
theorem Grid.blk (h : Grid w base er e size G n c vs rows) (hn : 0 < n) : ∃ g, G = some ⟨g, 0, none⟩ ∧ base ≤ g ∧ g < w.heap.size := by
  rcases h.head with ⟨_, h0, _⟩ | ⟨g, h1, h2, h3, _⟩
  · omega
  · exact ⟨g, h1, h2, h3⟩
/-- A slice of the grid. -/
theorem Grid.slot {g : Nat} (h : Grid w base er e size (some ⟨g, 0, none⟩) n c vs rows) {i : Nat} (hi : i < n) : w.cell? ⟨g, i, none⟩ = some (vs.getD i undef) := by
  have h1 := h.outer.cellAt i (by omega)
  rw [h1, List.getD_eq_getElem?_getD, List.getElem?_eq_getElem (by rw [h.lenV]; exact hi)]; rfl
theorem Grid.slotFree {g : Nat} (h : Grid w base er e size (some ⟨g, 0, none⟩) n c vs rows) (i : Nat) : w.frozen? ⟨g, i, none⟩ = false := h.outer.frozenAt i
/-- The form of a slice of the grid whose row is not empty. -/
theorem Grid.form (h : Grid w base er e size G n c vs rows) {i : Nat} (hi : i < n) : (vs.getD i undef = .slice none 0 0 ∧ rows.getD i [] = []) ∨
    ∃ b m d, vs.getD i undef = .slice (some ⟨b, 0, none⟩) m d ∧ base ≤ b ∧ b < w.heap.size ∧ m ≤ d ∧ d ≤ maxLen ∧ (rows.getD i []).length = m * size := by
  obtain ⟨m, hm⟩ := h.inner i hi
  rcases ownsRow_form hm with ⟨h1, _, h3⟩ | ⟨b, d, h1, h2, h3, h4, h5⟩
  · exact .inl ⟨h1, h3⟩
  · exact .inr ⟨b, m, d, h1, h2, h3, h4, h5, hm.1⟩
theorem Grid.row (h : Grid w base er e size G n c vs rows) {i : Nat} (hi : i < n) {b m d : Nat} (hv : vs.getD i undef = .slice (some ⟨b, 0, none⟩) m d) : w.ownsRow base e size (.slice (some ⟨b, 0, none⟩) m d) m (rows.getD i []) := by
  obtain ⟨m', hm⟩ := h.inner i hi
  rw [hv] at hm
  have hm' := hm
  rcases ownsRow_form hm with ⟨h1, _⟩ | ⟨b', d', h1, _⟩
  · cases h1
  · simp only [Value.slice.injEq] at h1
    obtain ⟨_, rfl, _⟩ := h1
    exact hm'
/-- A cell of a row. -/
theorem Grid.cell (h : Grid w base er e size G n c vs rows) {i : Nat} (hi : i < n) {b m d : Nat} (hv : vs.getD i undef = .slice (some ⟨b, 0, none⟩) m d) {k : Nat} (hk : k < (rows.getD i []).length) :
    w.cell? ⟨b, k, none⟩ = some ((rows.getD i []).getD k undef) := by
  have hr := h.row hi hv
  have h1 := hr.cellAt k (by have := hr.1; omega)
  rw [h1, List.getElem?_eq_getElem hk, List.getD_eq_getElem?_getD (i := k), List.getElem?_eq_getElem hk]; rfl
theorem Grid.free (h : Grid w base er e size G n c vs rows) {i : Nat} (hi : i < n) {b m d : Nat} (hv : vs.getD i undef = .slice (some ⟨b, 0, none⟩) m d) (k : Nat) : w.frozen? ⟨b, k, none⟩ = false := (h.row hi hv).frozenAt k
theorem gset_self {α : Type} (l : List α) {i : Nat} (x d : α) (h : i < l.length) : (l.set i x).getD i d = x := by
  simp [List.getD_eq_getElem?_getD, h]
theorem gset_ne {α : Type} (l : List α) {i j : Nat} (x d : α) (h : i ≠ j) : (l.set i x).getD j d = l.getD j d := by
  simp [List.getD_eq_getElem?_getD, h]
/-- A store into a row. -/
theorem Grid.store (h : Grid w base er e size G n c vs rows) {i : Nat} (hi : i < n) {b m d : Nat} (hv : vs.getD i undef = .slice (some ⟨b, 0, none⟩) m d) (k : Nat) (u : Value) :
    Grid (w.setCell ⟨b, k, none⟩ u) base er e size G n c vs (rows.set i ((rows.getD i []).set k u)) := by
  have hr := h.row hi hv
  obtain ⟨hs, hg⟩ := hr.stored k u
  have hob : (vs.getD i undef).ownBlock = some b := by rw [hv]; rfl
  obtain ⟨ha, hb⟩ := h.apart i hi b hob
  refine ⟨h.outer.kept hg (.inr ha), by rw [List.length_set]; exact h.lenR, fun j hj => ?_, h.apart⟩
  by_cases hij : i = j
  · subst hij
    rw [gset_self _ _ _ (by rw [h.lenR]; exact hi), hv]
    exact ⟨m, hs⟩
  · rw [gset_ne _ _ _ hij]
    obtain ⟨m', hm'⟩ := h.inner j hj
    exact ⟨m', hm'.kept hg (.inr fun e9 => hij (hb j hj e9).symm)⟩
/-- A new row comes in. -/
theorem Grid.put {g : Nat} (h : Grid w base er e size (some ⟨g, 0, none⟩) n c vs rows) {i : Nat} (hi : i < n) {v : Value} {m : Nat} {xs : List Value} (hv : w.ownsRow base e size v m xs)
    (hne : ∀ b, v.ownBlock = some b → b ≠ g ∧ ∀ j, j < n → j ≠ i → (vs.getD j undef).ownBlock ≠ some b) :
    Grid (w.setCell ⟨g, i, none⟩ v) base er e size (some ⟨g, 0, none⟩) n c (vs.set i v) (rows.set i xs) := by
  obtain ⟨hs, hg⟩ := h.outer.stored i v
  refine ⟨hs, by rw [List.length_set]; exact h.lenR, fun j hj => ?_, fun j hj b hb => ?_⟩
  · by_cases hij : i = j
    · subst hij
      rw [gset_self _ _ _ (by rw [h.lenV]; exact hi), gset_self _ _ _ (by rw [h.lenR]; exact hi)]
      refine ⟨m, hv.kept hg ?_⟩
      cases hvb : v.ownBlock with
      | none => exact .inl rfl
      | some b => exact .inr (by intro e9; injection e9 with e9; exact (hne b hvb).1 e9)
    · rw [gset_ne _ _ _ hij, gset_ne _ _ _ hij]
      obtain ⟨m', hm'⟩ := h.inner j hj
      refine ⟨m', hm'.kept hg ?_⟩
      cases hvb : (vs.getD j undef).ownBlock with
      | none => exact .inl rfl
      | some b => exact .inr (by intro e9; injection e9 with e9; subst e9; exact (h.apart j hj _ hvb).1 rfl)
  · have hgb : ∀ x : Nat, (Value.slice (some ⟨g, 0, none⟩) n c).ownBlock ≠ some x ↔ x ≠ g := by
      intro x
      simp only [Value.ownBlock, ne_eq, Option.some.injEq]
      exact ⟨fun h1 h2 => h1 h2.symm, fun h1 h2 => h1 h2.symm⟩
    by_cases hij : i = j
    · subst hij
      rw [gset_self _ _ _ (by rw [h.lenV]; exact hi)] at hb
      obtain ⟨h1, h2⟩ := hne b hb
      refine ⟨(hgb b).2 h1, fun j' hj' hb' => ?_⟩
      by_cases hij' : i = j'
      · exact hij'.symm
      · rw [gset_ne _ _ _ hij'] at hb'
        exact absurd hb' (h2 j' hj' fun e9 => hij' e9.symm)
    · rw [gset_ne _ _ _ hij] at hb
      obtain ⟨h1, h2⟩ := h.apart j hj b hb
      refine ⟨h1, fun j' hj' hb' => ?_⟩
      by_cases hij' : i = j'
      · subst hij'
        rw [gset_self _ _ _ (by rw [h.lenV]; exact hi)] at hb'
        exact absurd hb ((hne b hb').2 j hj fun e9 => hij e9.symm)
      · rw [gset_ne _ _ _ hij'] at hb'
        exact h2 j' hj' hb'
/-- A grid of nil rows, as a make lays it. -/
theorem Grid.made (w : World) (base : Nat) (er e : TypeId) (size n : Nat) (hb : base ≤ w.heap.size) (hn : n ≤ maxLen) :
    Grid (w.alloc (.cells (List.replicate n (Value.slice none 0 0)).toArray er)) base er e size (some ⟨w.heap.size, 0, none⟩) n n (List.replicate n (.slice none 0 0)) (List.replicate n []) := by
  have e1 : ∀ i, i < n → (List.replicate n (Value.slice none 0 0)).getD i undef = .slice none 0 0 := fun i hi => by simp [List.getD_eq_getElem?_getD, hi]
  refine ⟨?_, by simp, fun i hi => ⟨0, ?_⟩, fun i hi b hb => ?_⟩
  · have := World.ownsRow_lit (w := w) (base := base) (e := er) (size := 1) (List.replicate n (Value.slice none 0 0)).toArray n hb hn (by simp)
    simpa using this
  · rw [e1 i hi]
    have e2 : (List.replicate n ([] : List Value)).getD i [] = [] := by simp [List.getD_eq_getElem?_getD, hi]
    rw [e2]
    exact World.ownsRow_nil _ _ _ _
  · rw [e1 i hi] at hb
    cases hb
end

/-! ### values of a kind in a grid -/
/-- A kind of cells: what a cell that stands for x holds; this lasts while memory is made, and while a cell of the kind is written. -/
structure Cells (α : Type) where
  rel : α → Value → World → Prop
  last : ∀ x v w w', Below w.heap.size w w' → rel x v w → rel x v w'
  kept : ∀ x v w p u y u', w.cell? p = some u' → rel y u' w → rel x v w → rel x v (w.setCell p u)

def at2 {α : Type} (d : α) (R : List (List α)) (i k : Nat) : α := (R.getD i []).getD k d
def set2 {α : Type} (R : List (List α)) (i k : Nat) (x : α) : List (List α) := R.set i ((R.getD i []).set k x)
theorem set2_row_self {α : Type} {R : List (List α)} {i k : Nat} {x : α} (h : i < R.length) : (set2 R i k x).getD i [] = (R.getD i []).set k x := gset_self _ _ _ h
theorem set2_row_ne {α : Type} {R : List (List α)} {i j k : Nat} {x : α} (h : i ≠ j) : (set2 R i k x).getD j [] = R.getD j [] := gset_ne _ _ _ h
theorem set2_length {α : Type} {R : List (List α)} {i k : Nat} {x : α} : (set2 R i k x).length = R.length := List.length_set
theorem set2_rowlen {α : Type} {R : List (List α)} {i j k : Nat} {x : α} : ((set2 R i k x).getD j []).length = (R.getD j []).length := by
  by_cases hij : i = j
  · subst hij
    by_cases h : i < R.length
    · rw [set2_row_self h, List.length_set]
    · unfold set2
      rw [List.set_eq_of_length_le (by omega)]
  · rw [set2_row_ne hij]

/-- A grid whose cells stand for R. -/
structure GridR {α : Type} (C : Cells α) (d : α) (w : World) (base : Nat) (er e : TypeId) (size : Nat) (G : Option Addr) (n c : Nat) (vs : List Value) (R : List (List α)) : Prop where
  ex : ∃ rows, Grid w base er e size G n c vs rows ∧ R.length = n ∧ (∀ i, i < n → (rows.getD i []).length = (R.getD i []).length) ∧
    ∀ i k, i < n → k < (R.getD i []).length → C.rel (at2 d R i k) ((rows.getD i []).getD k undef) w

/-- The slice value '.slice A n c' reads as cells that stand for xs. -/
structure RdV {α : Type} (C : Cells α) (d : α) (w : World) (size : Nat) (A : Option Addr) (n c : Nat) (xs : List α) : Prop where
  len : xs.length = n * size
  cap : n ≤ c
  max : c ≤ maxLen
  cells : 0 < n * size → ∃ b off, A = some ⟨b, off, none⟩ ∧ b < w.heap.size ∧ ∀ k, k < n * size → ∃ v, w.cell? ⟨b, off + k, none⟩ = some v ∧ C.rel (xs.getD k d) v w
/-- .. as slices of such. -/
structure RdR {α : Type} (C : Cells α) (d : α) (w : World) (size : Nat) (A : Option Addr) (n c : Nat) (R : List (List α)) : Prop where
  len : R.length = n
  cap : n ≤ c
  max : c ≤ maxLen
  cells : 0 < n → ∃ b off, A = some ⟨b, off, none⟩ ∧ b < w.heap.size ∧ ∀ i, i < n → ∃ Ai m e, w.cell? ⟨b, off + i, none⟩ = some (.slice Ai m e) ∧ RdV C d w size Ai m e (R.getD i [])

section
variable {α : Type} {C : Cells α} {d : α} {w w' : World} {base : Nat} {er e : TypeId} {size : Nat} {G : Option Addr} {n c : Nat} {vs : List Value} {R : List (List α)} {xs : List α}

theorem RdV.below (h : RdV C d w size G n c xs) (hb : Below w.heap.size w w') : RdV C d w' size G n c xs :=
  ⟨h.len, h.cap, h.max, fun hn => by
    obtain ⟨b, off, e, hlt, hc⟩ := h.cells hn
    refine ⟨b, off, e, Nat.lt_of_lt_of_le hlt hb.size, fun k hk => ?_⟩
    obtain ⟨v, h1, h2⟩ := hc k hk
    exact ⟨v, (hb.cell (p := ⟨b, off + k, none⟩) hlt).trans h1, C.last _ _ _ _ hb h2⟩⟩
theorem RdR.below (h : RdR C d w size G n c R) (hb : Below w.heap.size w w') : RdR C d w' size G n c R :=
  ⟨h.len, h.cap, h.max, fun hn => by
    obtain ⟨b, off, e, hlt, hc⟩ := h.cells hn
    refine ⟨b, off, e, Nat.lt_of_lt_of_le hlt hb.size, fun i hi => ?_⟩
    obtain ⟨Ai, m, e', h1, h2⟩ := hc i hi
    exact ⟨Ai, m, e', (hb.cell (p := ⟨b, off + i, none⟩) hlt).trans h1, h2.below hb⟩⟩
theorem RdR.le63 (h : RdR C d w size G n c R) : n ≤ 9223372036854775807 := by
  have := h.cap; have := h.max; unfold maxLen at this; omega
theorem RdV.le63 (h : RdV C d w size G n c xs) : n ≤ 9223372036854775807 := by
  have := h.cap; have := h.max; unfold maxLen at this; omega
theorem RdV.at1 (h : RdV C d w 1 G n c xs) {k : Nat} (hk : k < n) : ∃ b off v, G = some ⟨b, off, none⟩ ∧ b < w.heap.size ∧ w.cell? ⟨b, off + k, none⟩ = some v ∧ C.rel (xs.getD k d) v w := by
  obtain ⟨b, off, e, hb, hc⟩ := h.cells (by omega)
  obtain ⟨v, h1, h2⟩ := hc k (by omega)
  exact ⟨b, off, v, e, hb, h1, h2⟩
theorem RdR.at (h : RdR C d w size G n c R) {i : Nat} (hi : i < n) : ∃ b off Ai m e, G = some ⟨b, off, none⟩ ∧ b < w.heap.size ∧ w.cell? ⟨b, off + i, none⟩ = some (.slice Ai m e) ∧ RdV C d w size Ai m e (R.getD i []) := by
  obtain ⟨b, off, e, hb, hc⟩ := h.cells (by omega)
  obtain ⟨Ai, m, e', h1, h2⟩ := hc i hi
  exact ⟨b, off, Ai, m, e', e, hb, h1, h2⟩

theorem GridR.len (h : GridR C d w base er e size G n c vs R) : R.length = n := by
  obtain ⟨_, _, h1, _⟩ := h.ex
  exact h1
theorem GridR.below (h : GridR C d w base er e size G n c vs R) (hb : Below w.heap.size w w') : GridR C d w' base er e size G n c vs R := by
  obtain ⟨rows, h1, h2, h3, h4⟩ := h.ex
  exact ⟨rows, h1.below hb, h2, h3, fun i k hi hk => C.last _ _ _ _ hb (h4 i k hi hk)⟩
theorem GridR.drew (h : GridR C d w base er e size G n c vs R) : GridR C d w.drew base er e size G n c vs R := h.below (Below.refl _ _).drew
theorem GridR.alloc (h : GridR C d w base er e size G n c vs R) (o : Obj) : GridR C d (w.alloc o) base er e size G n c vs R := h.below (below_alloc w o)
theorem GridR.lower (h : GridR C d w base er e size G n c vs R) {base' : Nat} (hb : base' ≤ base) : GridR C d w base' er e size G n c vs R := by
  obtain ⟨rows, h1, h2, h3, h4⟩ := h.ex
  exact ⟨rows, h1.lower hb, h2, h3, h4⟩
theorem GridR.le63 (h : GridR C d w base er e size G n c vs R) : n ≤ 9223372036854775807 := by
  obtain ⟨rows, h1, _⟩ := h.ex
  exact h1.le63
theorem GridR.blk (h : GridR C d w base er e size G n c vs R) (hn : 0 < n) : ∃ g, G = some ⟨g, 0, none⟩ ∧ base ≤ g ∧ g < w.heap.size := by
  obtain ⟨rows, h1, _⟩ := h.ex
  exact h1.blk hn
theorem GridR.slotFree {g : Nat} (h : GridR C d w base er e size (some ⟨g, 0, none⟩) n c vs R) (i : Nat) : w.frozen? ⟨g, i, none⟩ = false := by
  obtain ⟨rows, h1, _⟩ := h.ex
  exact h1.slotFree i
/-- A row that is not empty. -/
theorem GridR.row {g : Nat} (h : GridR C d w base er e size (some ⟨g, 0, none⟩) n c vs R) {i : Nat} (hi : i < n) (hne : 0 < (R.getD i []).length) :
    ∃ b m e', vs.getD i undef = .slice (some ⟨b, 0, none⟩) m e' ∧ w.cell? ⟨g, i, none⟩ = some (.slice (some ⟨b, 0, none⟩) m e') ∧ base ≤ b ∧ b < w.heap.size ∧ m ≤ e' ∧ e' ≤ maxLen ∧ (R.getD i []).length = m * size := by
  obtain ⟨rows, h1, h2, h3', h4⟩ := h.ex
  have h3 := h3' i hi
  rcases h1.form hi with ⟨_, h6⟩ | ⟨b, m, e', h5, h6, h7, h8, h9, h10⟩
  · rw [h6, List.length_nil] at h3
    omega
  · exact ⟨b, m, e', h5, by rw [h1.slot hi, h5], h6, h7, h8, h9, by rw [← h3]; exact h10⟩
theorem GridR.cell (h : GridR C d w base er e size G n c vs R) {i : Nat} (hi : i < n) {b m e' : Nat} (hv : vs.getD i undef = .slice (some ⟨b, 0, none⟩) m e') {k : Nat} (hk : k < (R.getD i []).length) :
    (∃ v, w.cell? ⟨b, k, none⟩ = some v ∧ C.rel (at2 d R i k) v w) ∧ w.frozen? ⟨b, k, none⟩ = false := by
  obtain ⟨rows, h1, h2, h3, h4⟩ := h.ex
  have h3' := h3 i hi
  exact ⟨⟨_, h1.cell hi hv (by omega), h4 i k hi hk⟩, h1.free hi hv k⟩
theorem GridR.store (h : GridR C d w base er e size G n c vs R) {i : Nat} (hi : i < n) {b m e' : Nat} (hv : vs.getD i undef = .slice (some ⟨b, 0, none⟩) m e') {k : Nat} (hk : k < (R.getD i []).length)
    {x : α} {u : Value} (hu : C.rel x u w) : GridR C d (w.setCell ⟨b, k, none⟩ u) base er e size G n c vs (set2 R i k x) := by
  obtain ⟨⟨v0, hc0, hr0⟩, _⟩ := h.cell hi hv hk
  obtain ⟨rows, h1, h2, h3, h4⟩ := h.ex
  refine ⟨_, h1.store hi hv k u, by rw [set2_length]; exact h2, fun j hj => ?_, fun j l hj hl => ?_⟩
  · rw [set2_rowlen]
    by_cases hij : i = j
    · subst hij
      rw [gset_self _ _ _ (by rw [h1.lenR]; exact hi), List.length_set]
      exact h3 i hi
    · rw [gset_ne _ _ _ hij]
      exact h3 j hj
  · rw [set2_rowlen] at hl
    have h3j := h3 j hj
    unfold at2
    by_cases hij : i = j
    · subst hij
      rw [set2_row_self (by omega), gset_self _ _ _ (by rw [h1.lenR]; exact hi)]
      by_cases hkl : k = l
      · subst hkl
        rw [gset_self _ _ _ hk, gset_self _ _ _ (by omega)]
        exact C.kept _ _ _ _ _ _ _ hc0 hr0 hu
      · rw [gset_ne _ _ _ hkl, gset_ne _ _ _ hkl]
        exact C.kept _ _ _ _ _ _ _ hc0 hr0 (h4 i l hi hl)
    · rw [set2_row_ne hij, gset_ne _ _ _ hij]
      exact C.kept _ _ _ _ _ _ _ hc0 hr0 (h4 j l hj hl)
/-- What a grid reads as. -/
theorem GridR.rd (h : GridR C d w base er e size G n c vs R) : RdR C d w size G n c R := by
  obtain ⟨rows, h1, h2, h3, h4⟩ := h.ex
  refine ⟨h2, ?_, ?_, fun hn => ?_⟩
  · rcases h1.head with ⟨_, rfl, _⟩ | ⟨g, _, _, _, h5, _⟩
    · exact Nat.zero_le _
    · exact h5
  · rcases h1.head with ⟨_, _, rfl⟩ | ⟨g, _, _, _, _, h5⟩
    · exact Nat.zero_le _
    · exact h5
  · obtain ⟨g, rfl, _, hg⟩ := h1.blk hn
    refine ⟨g, 0, rfl, hg, fun i hi => ?_⟩
    have hsl := h1.slot hi
    have h3i := h3 i hi
    rw [Nat.zero_add]
    rcases h1.form hi with ⟨h5, h6⟩ | ⟨b, m, e', h5, h6, h7, h8, h9, h10⟩
    · rw [h5] at hsl
      rw [h6] at h3i
      have h8 : (R.getD i []).length = 0 := by simpa using h3i.symm
      exact ⟨none, 0, 0, hsl, by rw [h8]; simp, Nat.le_refl _, Nat.zero_le _, fun h9 => absurd h9 (by simp)⟩
    · rw [h5] at hsl
      refine ⟨_, m, e', hsl, by rw [← h3i]; exact h10, h8, h9, fun _ => ⟨b, 0, rfl, h7, fun k hk => ?_⟩⟩
      rw [Nat.zero_add]
      exact ⟨_, h1.cell hi h5 (by omega), h4 i k hi (by omega)⟩
end

/-- Ints. -/
def intC : Cells Int where
  rel z v _ := v = .int .i64 z ∧ -9223372036854775808 ≤ z ∧ z ≤ 9223372036854775807
  last _ _ _ _ _ h := h
  kept _ _ _ _ _ _ _ _ _ h := h
theorem Rd.setCell {w : World} {A : Option Addr} {n c : Nat} {l : List Nat} (h : Rd w A n c l) {p : Addr} {u u' : Value} (hp : w.cell? p = some u') (hu : ∀ x, u' ≠ .int .u32 x) : Rd (w.setCell p u) A n c l :=
  ⟨h.len, h.cap, h.max, h.lims, fun hn => by
    obtain ⟨b, off, e, hb, hc⟩ := h.cells hn
    refine ⟨b, off, e, by simpa [World.setCell] using hb, fun j hj => ?_⟩
    rw [← hc j hj]
    refine World.cell?_setCell_other _ _ _ _ fun e9 => ?_
    have := hc j hj
    rw [← e9, hp] at this
    injection this with this
    exact hu _ this⟩
/-- Numbers of at most K limbs. -/
def natC (K : Nat) : Cells Nat where
  rel N v w := ∃ A n c, v = .slice A n c ∧ Rd w A n c (limbs N) ∧ n ≤ K
  last := fun _ _ _ _ hb ⟨A, n, c, h1, h2, h3⟩ => ⟨A, n, c, h1, h2.below hb, h3⟩
  kept := fun _ _ _ _ _ _ _ hp ⟨_, _, _, h0, _⟩ ⟨A, n, c, h1, h2, h3⟩ => ⟨A, n, c, h1, h2.setCell hp (by rintro x rfl; cases h0), h3⟩
end Go.Proofs.Ytonimfogmplgdaa
