/- The sums along the paths of a layered graph, in plain Lean. -/
import Derived.Test.YtonimfogmplgdaaShape
import Derived.Test.YtonimfogmplgdaaGrid
namespace Go.Proofs.Ytonimfogmplgdaa
open Go.RowKit

section
variable {α β : Type} (d : α) (up : α → α → β → α)
/-- One section, edge by edge. -/
def sec (one : List (List α) → EdgeT → β → List (List α)) : List (List α) → List EdgeT → List β → List (List α)
  | R, e :: es, v :: vs => sec one (one R e v) es vs
  | R, _, _ => R
def fwd1 (i : Nat) (R : List (List α)) (e : EdgeT) (v : β) : List (List α) := set2 R (i + 1) e.2.2.toNat (up (at2 d R (i + 1) e.2.2.toNat) (at2 d R i e.1.toNat) v)
def bwd1 (i : Nat) (R : List (List α)) (e : EdgeT) (v : β) : List (List α) := set2 R i e.1.toNat (up (at2 d R i e.1.toNat) (at2 d R (i + 1) e.2.2.toNat) v)
def fwdAll : List (List α) → Nat → List (List EdgeT) → List (List β) → List (List α)
  | R, i, es :: ee, vs :: vv => fwdAll (sec (fwd1 d up i) R es vs) (i + 1) ee vv
  | R, _, _, _ => R
def bwdAll (ee : List (List EdgeT)) (vv : List (List β)) : Nat → List (List α) → List (List α)
  | 0, R => R
  | k + 1, R => bwdAll ee vv k (sec (bwd1 d up k) R (ee.getD k []) (vv.getD k []))
def initR (W : List Int) (z : α) : List (List α) := W.map fun x => List.replicate x.toNat z
end

section
variable {α β : Type} {d : α} {up : α → α → β → α} {one : List (List α) → EdgeT → β → List (List α)} {R : List (List α)} {es : List EdgeT} {vs : List β} {ee : List (List EdgeT)} {vv : List (List β)} {i j : Nat}
theorem sec_step (e0 : EdgeT) (v0 : β) (h1 : j < es.length) (h2 : j < vs.length) : sec one R (es.drop j) (vs.drop j) = sec one (one R (es.getD j e0) (vs.getD j v0)) (es.drop (j + 1)) (vs.drop (j + 1)) := by
  rw [drop_getD e0 h1, drop_getD v0 h2]; rfl
theorem sec_end (h1 : es.length ≤ j) : sec one R (es.drop j) (vs.drop j) = R := by
  rw [drop_end h1]
  cases vs.drop j <;> rfl
theorem fwdAll_step (h1 : i < ee.length) (h2 : i < vv.length) : fwdAll d up R i (ee.drop i) (vv.drop i) = fwdAll d up (sec (fwd1 d up i) R (ee.getD i []) (vv.getD i [])) (i + 1) (ee.drop (i + 1)) (vv.drop (i + 1)) := by
  rw [drop_getD [] h1, drop_getD [] h2]; rfl
theorem fwdAll_end (h1 : ee.length ≤ i) : fwdAll d up R i (ee.drop i) (vv.drop i) = R := by
  rw [drop_end h1]
  cases vv.drop i <;> rfl
end

/-- A layered graph. -/
structure Layered (W : List Int) (ee : List (List EdgeT)) : Prop where
  len : W.length = ee.length + 1
  few : ee.length ≤ 64
  wide : ∀ i, i < W.length → 1 ≤ W.getD i 0 ∧ W.getD i 0 ≤ 65536
  edges : ∀ i, i < ee.length → (ee.getD i []).length ≤ 262144
  ok : ∀ i j, i < ee.length → j < (ee.getD i []).length → 0 ≤ ((ee.getD i []).getD j (0, 0, 0)).1 ∧ ((ee.getD i []).getD j (0, 0, 0)).1 < W.getD i 0 ∧
    0 ≤ ((ee.getD i []).getD j (0, 0, 0)).2.2 ∧ ((ee.getD i []).getD j (0, 0, 0)).2.2 < W.getD (i + 1) 0

theorem nodes_le : ∀ (l : List Int) (s : Int), 0 ≤ s → (∀ z ∈ l, 1 ≤ z) → nodesBad s l = false → ∀ z ∈ l, z ≤ 65536 := by
  intro l
  induction l with
  | nil => intro _ _ _ _ z hz; cases hz
  | cons y l ih =>
    intro s hs h1 h2 z hz
    simp only [nodesBad, Bool.or_eq_false_iff, decide_eq_false_iff_not] at h2
    have hy := h1 y (List.mem_cons_self ..)
    rcases List.mem_cons.1 hz with rfl | hz
    · omega
    · exact ih (s + y) (by omega) (fun x hx => h1 x (List.mem_cons_of_mem _ hx)) h2.2 z hz
theorem edges_le : ∀ (ll : List (List EdgeT)) (s : Nat), edgesBad s ll = false → ∀ l ∈ ll, l.length ≤ 262144 := by
  intro ll
  induction ll with
  | nil => intro _ _ l hl; cases hl
  | cons y ll ih =>
    intro s h2 l hl
    simp only [edgesBad, Bool.or_eq_false_iff, decide_eq_false_iff_not] at h2
    rcases List.mem_cons.1 hl with rfl | hl
    · omega
    · exact ih _ h2.2 l hl
theorem bad_ok {W : List Int} : ∀ (ll : List (List EdgeT)) (i : Nat), badFrom W i ll = false → ∀ k, k < ll.length → badL W (i + k) (ll.getD k []) = false := by
  intro ll
  induction ll with
  | nil => intro _ _ k hk; simp at hk
  | cons y ll ih =>
    intro i h k hk
    simp only [badFrom, Bool.or_eq_false_iff] at h
    cases k with
    | zero => exact h.1
    | succ k =>
      have := ih (i + 1) h.2 k (by simpa using hk)
      rw [show i + (k + 1) = i + 1 + k by omega]
      simpa [List.getD_eq_getElem?_getD] using this
theorem getD_mem {α : Type} {l : List α} {i : Nat} (d : α) (h : i < l.length) : l.getD i d ∈ l := by
  rw [List.getD_eq_getElem?_getD, List.getElem?_eq_getElem h]
  exact List.getElem_mem h
theorem layered_of_shape {W : List Int} {ee : List (List EdgeT)} (h : shapeV W ee = 0) : Layered W ee := by
  have h0 : ¬ misfit W ee := fun h9 => by rw [shape_misfit h9] at h; omega
  have h1 : narrow W = false := by
    cases h9 : narrow W
    · rfl
    · rw [shape_narrow h0 h9] at h; omega
  have h2 : nodesBad 0 W = false := by
    cases h9 : nodesBad 0 W
    · rfl
    · rw [shape_nodes h0 h1 h9] at h; omega
  have h3 : edgesBad 0 ee = false := by
    cases h9 : edgesBad 0 ee
    · rfl
    · rw [shape_edges h0 h1 h2 h9] at h; omega
  have h4 : badFrom W 0 ee = false := by
    cases h9 : badFrom W 0 ee
    · rfl
    · rw [shape_bad h0 h1 h2 h3 h9] at h; omega
  have h5 : ∀ z ∈ W, 1 ≤ z := fun z hz => by
    unfold narrow at h1
    rw [List.any_eq_false] at h1
    have := h1 z hz
    simp only [decide_eq_true_eq] at this
    omega
  unfold misfit at h0
  simp only [not_or] at h0
  refine ⟨by omega, by omega, fun i hi => ⟨narrow_getD h1 hi, nodes_le W 0 (by omega) h5 h2 _ (getD_mem 0 hi)⟩, fun i hi => edges_le ee 0 h3 _ (getD_mem [] hi), fun i j hi hj => ?_⟩
  have h6 := bad_ok ee 0 h4 i hi
  rw [Nat.zero_add] at h6
  unfold badL at h6
  rw [List.any_eq_false] at h6
  have h7 := h6 _ (getD_mem (0, 0, 0) hj)
  unfold badE at h7
  simp only [Bool.or_eq_true, decide_eq_true_eq, not_or] at h7
  omega

/-- The rows of R are as wide as W says. -/
structure RowsFit {α : Type} (W : List Int) (R : List (List α)) : Prop where
  len : R.length = W.length
  row : ∀ i, i < W.length → ((R.getD i []).length : Int) = W.getD i 0
theorem RowsFit.set2 {α : Type} {W : List Int} {R : List (List α)} (h : RowsFit W R) (i k : Nat) (x : α) : RowsFit W (set2 R i k x) :=
  ⟨by rw [set2_length]; exact h.len, fun j hj => by rw [set2_rowlen]; exact h.row j hj⟩
theorem RowsFit.init {α : Type} {W : List Int} (z : α) (h : ∀ i, i < W.length → 1 ≤ W.getD i 0) : RowsFit W (initR W z) := by
  refine ⟨by simp [initR], fun i hi => ?_⟩
  have h1 := h i hi
  have e : (initR W z).getD i [] = List.replicate (W.getD i 0).toNat z := by
    simp [initR, List.getD_eq_getElem?_getD, hi]
  rw [e, List.length_replicate]
  omega
/-- How long the list of the values of each section is held against how many edges it has. -/
def fitsV (W : List Int) (ee : List (List EdgeT)) (lens : List Nat) : Int := if shapeV W ee ≠ 0 then shapeV W ee else if lens = ee.map List.length then 0 else 3
theorem fits_shape {W : List Int} {ee : List (List EdgeT)} {lens : List Nat} (h : shapeV W ee ≠ 0) : fitsV W ee lens = shapeV W ee := if_pos h
theorem fits_ok {W : List Int} {ee : List (List EdgeT)} {lens : List Nat} (h : shapeV W ee = 0) (h1 : lens = ee.map List.length) : fitsV W ee lens = 0 := by unfold fitsV; rw [if_neg (by simpa using h), if_pos h1]
theorem fits_bad {W : List Int} {ee : List (List EdgeT)} {lens : List Nat} (h : shapeV W ee = 0) (h1 : lens ≠ ee.map List.length) : fitsV W ee lens = 3 := by unfold fitsV; rw [if_neg (by simpa using h), if_neg h1]
theorem fits_zero {W : List Int} {ee : List (List EdgeT)} {lens : List Nat} (h : fitsV W ee lens = 0) : shapeV W ee = 0 ∧ lens = ee.map List.length := by
  by_cases h1 : shapeV W ee = 0
  · refine ⟨h1, ?_⟩
    by_cases h2 : lens = ee.map List.length
    · exact h2
    · rw [fits_bad h1 h2] at h; omega
  · rw [fits_shape h1] at h
    exact absurd h h1
/-- Up to i, the lists are as long as one another. -/
theorem lens_ne {lens : List Nat} {ee : List (List EdgeT)} {i : Nat} (h : i < ee.length) (hne : lens.getD i 0 ≠ (ee.getD i []).length) : lens ≠ ee.map List.length := by
  rintro rfl
  refine hne ?_
  simp [List.getD_eq_getElem?_getD, h]
theorem lens_eq {lens : List Nat} {ee : List (List EdgeT)} (h0 : lens.length = ee.length) (h : ∀ i, i < ee.length → lens.getD i 0 = (ee.getD i []).length) : lens = ee.map List.length := by
  refine List.ext_getElem (by simpa using h0) fun i h1 h2 => ?_
  have h3 := h i (by omega)
  simp only [List.getD_eq_getElem?_getD, List.getElem?_eq_getElem h1, List.getElem?_eq_getElem (show i < ee.length by omega), Option.getD_some] at h3
  simpa using h3
theorem RowsFit.sec {α β : Type} {W : List Int} {one : List (List α) → EdgeT → β → List (List α)} (hone : ∀ R e v, RowsFit W R → RowsFit W (one R e v)) : ∀ (es : List EdgeT) (vs : List β) (R : List (List α)), RowsFit W R → RowsFit W (sec one R es vs)
  | [], _, _, h => h
  | _ :: _, [], _, h => h
  | _ :: es, _ :: vs, _, h => RowsFit.sec hone es vs _ (hone _ _ _ h)
theorem RowsFit.fwdAll {α β : Type} {d : α} {up : α → α → β → α} {W : List Int} : ∀ (ee : List (List EdgeT)) (vv : List (List β)) (R : List (List α)) (i : Nat), RowsFit W R → RowsFit W (fwdAll d up R i ee vv)
  | [], _, _, _, h => h
  | _ :: _, [], _, _, h => h
  | _ :: ee, _ :: vv, _, _, h => RowsFit.fwdAll ee vv _ _ (RowsFit.sec (fun _ _ _ h => h.set2 _ _ _) _ _ _ h)
theorem RowsFit.bwdAll {α β : Type} {d : α} {up : α → α → β → α} {W : List Int} {ee : List (List EdgeT)} {vv : List (List β)} : ∀ (k : Nat) (R : List (List α)), RowsFit W R → RowsFit W (bwdAll d up ee vv k R)
  | 0, _, h => h
  | k + 1, _, h => RowsFit.bwdAll k _ (RowsFit.sec (fun _ _ _ h => h.set2 _ _ _) _ _ _ h)
end Go.Proofs.Ytonimfogmplgdaa
