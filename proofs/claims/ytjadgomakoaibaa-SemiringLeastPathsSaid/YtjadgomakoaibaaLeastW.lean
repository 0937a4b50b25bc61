/- Weights, once: what the law of the least weights lays in plain Lean. -/
import Derived.Test.YtjadgomakoaibaaLeastM
import Derived.Test.YtjadgomakoaibaaNats
namespace Go.Proofs.Ytjadgomakoaibaa
open Go.RowKit
/-- A weight, once. -/
def onceW (z : Int) : LW := (z, 1)
theorem fwdAll_once (ee : List (List EdgeT)) (B : List (List Int)) (R : List (List LW)) (i : Nat) :
    fwdAll ((infW, 0) : LW) upL R i ee (B.map fun l => l.map onceW) = fwdAll ((infW, 0) : LW) upLI R i ee B := fwdAll_map _ _ onceW ee B R i
theorem map_lens {α β : Type} (f : α → β) (V : List (List α)) : (V.map fun l => l.map f).map List.length = V.map List.length := by simp [Function.comp_def]
theorem lens_row {α β : Type} {X : List (List α)} {Y : List (List β)} (h : X.map List.length = Y.map List.length) (i : Nat) : (X.getD i []).length = (Y.getD i []).length := by
  have h1 := congrArg (fun l : List Nat => l.getD i 0) h
  simp only [List.getD_eq_getElem?_getD, List.getElem?_map] at h1
  simp only [List.getD_eq_getElem?_getD]
  cases h2 : X[i]? <;> cases h3 : Y[i]? <;> simp_all
theorem at2_map {α β : Type} (f : α → β) (d : α) (e : β) (V : List (List α)) (i j : Nat) : at2 e (V.map fun l => l.map f) i j = f (at2 d V i j) ∨ at2 e (V.map fun l => l.map f) i j = e := by
  unfold at2
  have h1 : (V.map fun l => l.map f).getD i [] = (V.getD i []).map f := by
    simp only [List.getD_eq_getElem?_getD, List.getElem?_map]
    cases V[i]? <;> rfl
  rw [h1]
  simp only [List.getD_eq_getElem?_getD, List.getElem?_map]
  cases (V[i]?.getD [])[j]?
  · exact .inr rfl
  · exact .inl rfl
theorem bring_at (V : List (List Int)) (i j : Nat) : 0 ≤ at2 0 (V.map fun l => l.map bringOf) i j ∧ at2 0 (V.map fun l => l.map bringOf) i j ≤ 8 := by
  rcases at2_map bringOf 0 0 V i j with h | h
  · rw [h]; exact bring_range _
  · rw [h]; exact ⟨Int.le_refl _, by decide⟩
theorem once_can {B : List (List Int)} (h : ∀ i j, 0 ≤ at2 0 B i j ∧ at2 0 B i j ≤ 8) (i j : Nat) :
    CanW (at2 ((infW, 0) : LW) (B.map fun l => l.map onceW) i j) ∧ (at2 ((infW, 0) : LW) (B.map fun l => l.map onceW) i j).2 < 18446744073709551616 := by
  rcases at2_map onceW 0 ((infW, 0) : LW) B i j with h1 | h1
  · rw [h1]
    have h2 := h i j
    have hi : infW = 4611686018427387904 := rfl
    exact ⟨.inr ⟨h2.1, by show at2 0 B i j < infW; omega, by show (1 : Nat) ≠ 0; decide⟩, by show (1 : Nat) < _; decide⟩
  · rw [h1]
    exact ⟨.inl ⟨rfl, rfl⟩, by show (0 : Nat) < _; decide⟩
theorem sec_can {i : Nat} : ∀ (es : List EdgeT) (vs : List Int) (R : List (List LW)), (∀ v ∈ vs, 0 ≤ v ∧ v ≤ 8) → (∀ r k, CanW (at2 ((infW, 0) : LW) R r k)) →
    ∀ r k, CanW (at2 ((infW, 0) : LW) (sec (fwd1 ((infW, 0) : LW) upLI i) R es vs) r k) := by
  intro es
  induction es with
  | nil => intro vs R _ h; exact h
  | cons e es ih =>
    intro vs R hv h
    cases vs with
    | nil => exact h
    | cons v vs =>
      refine ih vs _ (fun x hx => hv x (List.mem_cons_of_mem _ hx)) fun r k => ?_
      unfold fwd1
      rw [at2_set2]
      split
      · have h2 := hv v (List.mem_cons_self ..)
        have hi : infW = 4611686018427387904 := rfl
        exact upL_can (h _ _) (h _ _) (.inr ⟨h2.1, by show v < infW; omega, by show (1 : Nat) ≠ 0; decide⟩)
      · exact h r k
theorem fwd_can : ∀ (ee : List (List EdgeT)) (B : List (List Int)) (R : List (List LW)) (i : Nat), (∀ l ∈ B, ∀ v ∈ l, 0 ≤ v ∧ v ≤ 8) → (∀ r k, CanW (at2 ((infW, 0) : LW) R r k)) →
    ∀ r k, CanW (at2 ((infW, 0) : LW) (fwdAll ((infW, 0) : LW) upLI R i ee B) r k) := by
  intro ee
  induction ee with
  | nil => intro B R i _ h; exact h
  | cons es ee ih =>
    intro B R i hB h
    cases B with
    | nil => exact h
    | cons vs B => exact ih B _ (i + 1) (fun l hl => hB l (List.mem_cons_of_mem _ hl)) (sec_can es vs R (hB vs (List.mem_cons_self ..)) h)
theorem at_mem {B : List (List Int)} (h : ∀ i j, 0 ≤ at2 0 B i j ∧ at2 0 B i j ≤ 8) : ∀ l ∈ B, ∀ v ∈ l, 0 ≤ v ∧ v ≤ 8 := by
  intro l hl v hv
  obtain ⟨i, hi, rfl⟩ := List.getElem_of_mem hl
  obtain ⟨j, hj, rfl⟩ := List.getElem_of_mem hv
  have := h i j
  unfold at2 at this
  simpa [List.getD_eq_getElem?_getD, hi, hj] using this
/-- The sums of the law: their rows, their entries. -/
theorem fin_facts {Ws : List Int} {ee : List (List EdgeT)} {B : List (List Int)} (hL : Layered Ws ee) (h : ∀ i j, 0 ≤ at2 0 B i j ∧ at2 0 B i j ≤ 8) :
    RowsFit Ws (fwdAll ((infW, 0) : LW) upLI (set2 (initR Ws ((infW, 0) : LW)) 0 0 ((0, 1) : LW)) 0 ee B) ∧
    ∀ r k, CanW (at2 ((infW, 0) : LW) (fwdAll ((infW, 0) : LW) upLI (set2 (initR Ws ((infW, 0) : LW)) 0 0 ((0, 1) : LW)) 0 ee B) r k) :=
  ⟨RowsFit.fwdAll _ _ _ _ ((RowsFit.init _ fun i hi => (hL.wide i hi).1).set2 _ _ _), fwd_can _ _ _ _ (at_mem h) fun r k => (BL.init (W := Ws) r k).1⟩
end Go.Proofs.Ytjadgomakoaibaa
