/- The sums over the nodes of a layered graph, forward times backward, are the same at each time: plain Lean. -/
import Derived.Test.YtjadgomakoaibaaThrough
namespace Go.Proofs.Ytjadgomakoaibaa
open Go.RowKit

def addTo (f : Nat → Nat) : Nat → Nat
  | 0 => 0
  | k + 1 => addTo f k + f k
theorem addTo_congr {f g : Nat → Nat} : ∀ {n : Nat}, (∀ v, v < n → f v = g v) → addTo f n = addTo g n
  | 0, _ => rfl
  | n + 1, h => by
    simp only [addTo]
    rw [addTo_congr (fun v hv => h v (by omega)), h n (by omega)]
theorem addTo_zero {f : Nat → Nat} : ∀ {n : Nat}, (∀ v, v < n → f v = 0) → addTo f n = 0
  | 0, _ => rfl
  | n + 1, h => by
    simp only [addTo]
    rw [addTo_zero (fun v hv => h v (by omega)), h n (by omega)]
theorem addTo_one {f g : Nat → Nat} {k c : Nat} : ∀ {n : Nat}, k < n → (∀ v, v < n → f v = g v + if v = k then c else 0) → addTo f n = addTo g n + c
  | 0, h, _ => by omega
  | n + 1, h, hf => by
    simp only [addTo]
    have h1 := hf n (by omega)
    by_cases hk : k = n
    · subst hk
      rw [if_pos rfl] at h1
      rw [h1, addTo_congr (fun v hv => by rw [hf v (by omega), if_neg (by omega), Nat.add_zero])]
      omega
    · rw [if_neg (by omega), Nat.add_zero] at h1
      rw [h1, addTo_one (g := g) (k := k) (c := c) (by omega) (fun v hv => hf v (by omega))]
      omega
/-- Row r of R, dotted with y. -/
def dot (R : List (List Nat)) (r : Nat) (y : Nat → Nat) : Nat := addTo (fun v => at2 0 R r v * y v) (R.getD r []).length
/-- What the edges of a section carry from a to y. -/
def esum (a y : Nat → Nat) : List EdgeT → List Nat → Nat
  | e :: es, x :: xs => a e.1.toNat * x * y e.2.2.toNat + esum a y es xs
  | _, _ => 0
theorem at2_row {R S : List (List Nat)} {r : Nat} (h : R.getD r [] = S.getD r []) (v : Nat) : at2 0 R r v = at2 0 S r v := by unfold at2; rw [h]
theorem dot_row {R S : List (List Nat)} {r : Nat} (h : R.getD r [] = S.getD r []) (y : Nat → Nat) : dot R r y = dot S r y := by
  unfold dot
  rw [h]
  exact addTo_congr fun v _ => by rw [at2_row h]
theorem dot_set {R : List (List Nat)} {i k c l : Nat} {y : Nat → Nat} (hi : i < R.length) (hk : k < (R.getD i []).length) (hl : l = at2 0 R i k + c) : dot (set2 R i k l) i y = dot R i y + c * y k := by
  unfold dot
  rw [set2_rowlen]
  refine addTo_one hk fun v hv => ?_
  rw [at2_set2]
  by_cases hvk : v = k
  · subst hvk
    rw [if_pos ⟨rfl, rfl, hi, hk⟩, if_pos rfl, hl, Nat.add_mul]
  · rw [if_neg (fun h => hvk h.2.1), if_neg hvk, Nat.add_zero]

/-- One section, forward. -/
theorem fwd_sec {i : Nat} : ∀ (es : List EdgeT) (xs : List Nat) (R : List (List Nat)), i + 1 < R.length → (∀ e ∈ es, e.2.2.toNat < (R.getD (i + 1) []).length) →
    (∀ y, dot (sec (fwd1 0 upN i) R es xs) (i + 1) y = dot R (i + 1) y + esum (at2 0 R i) y es xs) ∧ (∀ r, r ≠ i + 1 → (sec (fwd1 0 upN i) R es xs).getD r [] = R.getD r []) ∧ (sec (fwd1 0 upN i) R es xs).length = R.length
  | [], _, R, _, _ => ⟨fun _ => rfl, fun _ _ => rfl, rfl⟩
  | _ :: _, [], R, _, _ => ⟨fun _ => rfl, fun _ _ => rfl, rfl⟩
  | e :: es, x :: xs, R, hl, hv => by
    obtain ⟨h1, h2, h3⟩ := fwd_sec es xs (fwd1 0 upN i R e x) (by unfold fwd1; rw [set2_length]; exact hl) (fun e' he' => by unfold fwd1; rw [set2_rowlen]; exact hv e' (List.mem_cons_of_mem _ he'))
    have hrow : ∀ r, r ≠ i + 1 → (fwd1 0 upN i R e x).getD r [] = R.getD r [] := fun r hr => by unfold fwd1; exact set2_row_ne (fun h => hr h.symm)
    have ha : at2 0 (fwd1 0 upN i R e x) i = at2 0 R i := funext fun v => at2_row (hrow i (by omega)) v
    refine ⟨fun y => ?_, fun r hr => ?_, ?_⟩
    · show dot (sec (fwd1 0 upN i) (fwd1 0 upN i R e x) es xs) (i + 1) y = _
      rw [h1 y, ha]
      unfold fwd1
      rw [dot_set (l := upN (at2 0 R (i + 1) e.2.2.toNat) (at2 0 R i e.1.toNat) x) (c := at2 0 R i e.1.toNat * x) hl (hv e (List.mem_cons_self ..)) rfl]
      simp only [esum]
      omega
    · show (sec (fwd1 0 upN i) (fwd1 0 upN i R e x) es xs).getD r [] = _
      rw [h2 r hr, hrow r hr]
    · show (sec (fwd1 0 upN i) (fwd1 0 upN i R e x) es xs).length = _
      rw [h3]
      unfold fwd1
      rw [set2_length]
/-- One section, backward. -/
theorem bwd_sec {i : Nat} : ∀ (es : List EdgeT) (xs : List Nat) (R : List (List Nat)), i < R.length → (∀ e ∈ es, e.1.toNat < (R.getD i []).length) →
    (∀ a, dot (sec (bwd1 0 upN i) R es xs) i a = dot R i a + esum a (at2 0 R (i + 1)) es xs) ∧ (∀ r, r ≠ i → (sec (bwd1 0 upN i) R es xs).getD r [] = R.getD r []) ∧ (sec (bwd1 0 upN i) R es xs).length = R.length
  | [], _, R, _, _ => ⟨fun _ => rfl, fun _ _ => rfl, rfl⟩
  | _ :: _, [], R, _, _ => ⟨fun _ => rfl, fun _ _ => rfl, rfl⟩
  | e :: es, x :: xs, R, hl, hv => by
    obtain ⟨h1, h2, h3⟩ := bwd_sec es xs (bwd1 0 upN i R e x) (by unfold bwd1; rw [set2_length]; exact hl) (fun e' he' => by unfold bwd1; rw [set2_rowlen]; exact hv e' (List.mem_cons_of_mem _ he'))
    have hrow : ∀ r, r ≠ i → (bwd1 0 upN i R e x).getD r [] = R.getD r [] := fun r hr => by unfold bwd1; exact set2_row_ne (fun h => hr h.symm)
    have ha : at2 0 (bwd1 0 upN i R e x) (i + 1) = at2 0 R (i + 1) := funext fun v => at2_row (hrow (i + 1) (by omega)) v
    refine ⟨fun a => ?_, fun r hr => ?_, ?_⟩
    · show dot (sec (bwd1 0 upN i) (bwd1 0 upN i R e x) es xs) i a = _
      rw [h1 a, ha]
      unfold bwd1
      rw [dot_set (l := upN (at2 0 R i e.1.toNat) (at2 0 R (i + 1) e.2.2.toNat) x) (c := at2 0 R (i + 1) e.2.2.toNat * x) hl (hv e (List.mem_cons_self ..)) rfl]
      simp only [esum]
      have e1 : at2 0 R (i + 1) e.2.2.toNat * x * a e.1.toNat = a e.1.toNat * x * at2 0 R (i + 1) e.2.2.toNat := by
        rw [Nat.mul_comm (at2 0 R (i + 1) e.2.2.toNat * x), Nat.mul_comm (at2 0 R (i + 1) e.2.2.toNat) x, Nat.mul_assoc]
      rw [e1]
      omega
    · show (sec (bwd1 0 upN i) (bwd1 0 upN i R e x) es xs).getD r [] = _
      rw [h2 r hr, hrow r hr]
    · show (sec (bwd1 0 upN i) (bwd1 0 upN i R e x) es xs).length = _
      rw [h3]
      unfold bwd1
      rw [set2_length]

/-- Forward: the rows up to i stay; each row behind is what its section brings. -/
theorem fwd_all : ∀ (ee : List (List EdgeT)) (vv : List (List Nat)) (R : List (List Nat)) (i : Nat), vv.length = ee.length → i + ee.length < R.length →
    (∀ k, k < ee.length → ∀ e ∈ ee.getD k [], e.2.2.toNat < (R.getD (i + k + 1) []).length) → (∀ r v, i < r → at2 0 R r v = 0) →
    (∀ r, r ≤ i → (fwdAll 0 upN R i ee vv).getD r [] = R.getD r []) ∧
    (∀ k, k < ee.length → ∀ y, dot (fwdAll 0 upN R i ee vv) (i + k + 1) y = esum (at2 0 (fwdAll 0 upN R i ee vv) (i + k)) y (ee.getD k []) (vv.getD k []))
  | [], vv, R, i, _, _, _, _ => by
    cases vv <;> exact ⟨fun _ _ => rfl, fun k hk => absurd hk (by simp)⟩
  | es :: ee, [], _, _, h, _, _, _ => by simp at h
  | es :: ee, vs :: vv, R, i, hlen, hR, hv, hz => by
    obtain ⟨s1, s2, s3⟩ := fwd_sec (i := i) es vs R (by simp at hR; omega) (fun e he => by have := hv 0 (by simp) e (by simpa using he); simpa using this)
    have hrow2 : ∀ r, r ≠ i + 1 → (sec (fwd1 0 upN i) R es vs).getD r [] = R.getD r [] := s2
    have hlen2 : ((sec (fwd1 0 upN i) R es vs).getD (i + 1) []).length = (R.getD (i + 1) []).length := by
      have hgen : ∀ (es : List EdgeT) (vs : List Nat) (R : List (List Nat)), ((sec (fwd1 0 upN i) R es vs).getD (i + 1) []).length = (R.getD (i + 1) []).length := by
        intro es
        induction es with
        | nil => intro vs R; rfl
        | cons e es ih =>
          intro vs R
          cases vs with
          | nil => rfl
          | cons x vs =>
            show ((sec (fwd1 0 upN i) (fwd1 0 upN i R e x) es vs).getD (i + 1) []).length = _
            rw [ih]
            unfold fwd1
            rw [set2_rowlen]
      exact hgen es vs R
    obtain ⟨a1, a2⟩ := fwd_all ee vv (sec (fwd1 0 upN i) R es vs) (i + 1) (by simpa using hlen) (by rw [s3]; simp at hR; omega)
      (fun k hk e he => by
        have h1 := hv (k + 1) (by simp; omega) e (by simpa [List.getD_eq_getElem?_getD] using he)
        rw [show i + 1 + k + 1 = i + (k + 1) + 1 by omega]
        rw [hrow2 _ (by omega)]
        exact h1)
      (fun r v hr => by rw [at2_row (hrow2 r (by omega))]; exact hz r v (by omega))
    have hF : ∀ r, r ≤ i → (fwdAll 0 upN R i (es :: ee) (vs :: vv)).getD r [] = R.getD r [] := fun r hr => by
      show (fwdAll 0 upN (sec (fwd1 0 upN i) R es vs) (i + 1) ee vv).getD r [] = _
      rw [a1 r (by omega), hrow2 r (by omega)]
    refine ⟨hF, fun k hk y => ?_⟩
    cases k with
    | zero =>
      show dot (fwdAll 0 upN (sec (fwd1 0 upN i) R es vs) (i + 1) ee vv) (i + 1) y = esum (at2 0 (fwdAll 0 upN R i (es :: ee) (vs :: vv)) i) y es vs
      rw [dot_row (a1 (i + 1) (Nat.le_refl _)), s1 y]
      have h0 : dot R (i + 1) y = 0 := addTo_zero fun v _ => by rw [hz (i + 1) v (by omega), Nat.zero_mul]
      have h1 : at2 0 (fwdAll 0 upN R i (es :: ee) (vs :: vv)) i = at2 0 R i := funext fun v => at2_row (hF i (Nat.le_refl _)) v
      rw [h0, h1, Nat.zero_add]
    | succ k =>
      have h1 := a2 k (by simpa using hk) y
      rw [show i + 1 + k + 1 = i + (k + 1) + 1 by omega, show i + 1 + k = i + (k + 1) by omega] at h1
      have e1 : (es :: ee).getD (k + 1) [] = ee.getD k [] := by simp [List.getD_eq_getElem?_getD]
      have e2 : (vs :: vv).getD (k + 1) [] = vv.getD k [] := by simp [List.getD_eq_getElem?_getD]
      rw [e1, e2]
      exact h1
/-- Backward: the rows from k on stay; each row before is what its section brings. -/
theorem bwd_all {ee : List (List EdgeT)} {vv : List (List Nat)} : ∀ (k : Nat) (R : List (List Nat)), k < R.length → (∀ j, j < k → ∀ e ∈ ee.getD j [], e.1.toNat < (R.getD j []).length) → (∀ r v, r < k → at2 0 R r v = 0) →
    (∀ r, k ≤ r → (bwdAll 0 upN ee vv k R).getD r [] = R.getD r []) ∧ (∀ j, j < k → ∀ a, dot (bwdAll 0 upN ee vv k R) j a = esum a (at2 0 (bwdAll 0 upN ee vv k R) (j + 1)) (ee.getD j []) (vv.getD j []))
  | 0, R, _, _, _ => ⟨fun _ _ => rfl, fun j hj => absurd hj (by omega)⟩
  | k + 1, R, hR, hv, hz => by
    obtain ⟨s1, s2, s3⟩ := bwd_sec (i := k) (ee.getD k []) (vv.getD k []) R (by omega) (fun e he => hv k (by omega) e he)
    obtain ⟨a1, a2⟩ := bwd_all (ee := ee) (vv := vv) k (sec (bwd1 0 upN k) R (ee.getD k []) (vv.getD k [])) (by rw [s3]; omega)
      (fun j hj e he => by rw [s2 j (by omega)]; exact hv j (by omega) e he) (fun r v hr => by rw [at2_row (s2 r (by omega))]; exact hz r v (by omega))
    refine ⟨fun r hr => ?_, fun j hj a => ?_⟩
    · show (bwdAll 0 upN ee vv k (sec (bwd1 0 upN k) R (ee.getD k []) (vv.getD k []))).getD r [] = _
      rw [a1 r (by omega), s2 r (by omega)]
    · show dot (bwdAll 0 upN ee vv k (sec (bwd1 0 upN k) R (ee.getD k []) (vv.getD k []))) j a = esum a (at2 0 (bwdAll 0 upN ee vv k (sec (bwd1 0 upN k) R (ee.getD k []) (vv.getD k []))) (j + 1)) _ _
      by_cases hjk : j < k
      · exact a2 j hjk a
      · obtain rfl : j = k := by omega
        rw [dot_row (a1 j (Nat.le_refl _)), s1 a]
        have h0 : dot R j a = 0 := addTo_zero fun v _ => by rw [hz j v (by omega), Nat.zero_mul]
        have h1 : at2 0 (bwdAll 0 upN ee vv j (sec (bwd1 0 upN j) R (ee.getD j []) (vv.getD j []))) (j + 1) = at2 0 R (j + 1) := funext fun v => by
          rw [at2_row (a1 (j + 1) (by omega)), at2_row (s2 (j + 1) (by omega))]
        rw [h0, h1, Nat.zero_add]
theorem thr_sum {F B : List (List Nat)} {i : Nat} : ∀ (es : List EdgeT) (xs : List Nat), (thr F B i es xs).sum = esum (at2 0 F i) (at2 0 B (i + 1)) es xs
  | [], _ => rfl
  | _ :: _, [] => rfl
  | e :: es, x :: xs => by
    have := thr_sum (F := F) (B := B) (i := i) es xs
    unfold thr at this ⊢
    simp only [List.zipWith_cons_cons, List.sum_cons, esum, this]
/-- The sums meet. -/
theorem meet {Ws : List Int} {ee : List (List EdgeT)} {V : List (List Nat)} (hL : Layered Ws ee) (hV : V.length = ee.length) :
    (∀ i, i ≤ ee.length → addTo (fun v => at2 0 (FF Ws ee V) i v * at2 0 (FB Ws ee V) i v) ((FF Ws ee V).getD i []).length = at2 0 (FF Ws ee V) ee.length 0) ∧
    at2 0 (FB Ws ee V) 0 0 = at2 0 (FF Ws ee V) ee.length 0 ∧
    (∀ i, i < ee.length → (thr (FF Ws ee V) (FB Ws ee V) i (ee.getD i []) (V.getD i [])).sum = at2 0 (FF Ws ee V) ee.length 0) := by
  have hlen := hL.len
  have f0 : RowsFit Ws (initR Ws (0 : Nat)) := RowsFit.init _ fun i hi => (hL.wide i hi).1
  have gF : RowsFit Ws (FF Ws ee V) := RowsFit.fwdAll _ _ _ _ (f0.set2 _ _ _)
  have gB : RowsFit Ws (FB Ws ee V) := RowsFit.bwdAll _ _ (f0.set2 _ _ _)
  have fI := f0.set2 0 0 (1 : Nat)
  have bI := f0.set2 ee.length 0 (1 : Nat)
  have hok : ∀ k, k < ee.length → ∀ e ∈ ee.getD k [], 0 ≤ e.1 ∧ e.1 < Ws.getD k 0 ∧ 0 ≤ e.2.2 ∧ e.2.2 < Ws.getD (k + 1) 0 := by
    intro k hk e he
    obtain ⟨j, hj, rfl⟩ := List.getElem_of_mem he
    have := hL.ok k j hk hj
    rwa [List.getD_eq_getElem?_getD (i := j), List.getElem?_eq_getElem hj, Option.getD_some] at this
  obtain ⟨F1, F2⟩ := fwd_all ee V (set2 (initR Ws (0 : Nat)) 0 0 1) 0 hV (by rw [fI.len]; omega)
    (fun k hk e he => by
      have h1 := hok k hk e he
      have h2 := fI.row (0 + k + 1) (by omega)
      rw [show 0 + k + 1 = k + 1 by omega] at h2 ⊢
      omega)
    (fun r v hr => by rw [at2_set2, if_neg (fun h => by omega), at2_init])
  obtain ⟨B1, B2⟩ := bwd_all (ee := ee) (vv := V) ee.length (set2 (initR Ws (0 : Nat)) ee.length 0 1) (by rw [bI.len]; omega)
    (fun j hj e he => by
      have h1 := hok j hj e he
      have h2 := bI.row j (by omega)
      omega)
    (fun r v hr => by rw [at2_set2, if_neg (fun h => by omega), at2_init])
  have lenFB : ∀ i, i < Ws.length → ((FF Ws ee V).getD i []).length = ((FB Ws ee V).getD i []).length := fun i hi => by
    have h1 := gF.row i hi
    have h2 := gB.row i hi
    omega
  have hdF : ∀ i, dot (FF Ws ee V) i (at2 0 (FB Ws ee V) i) = addTo (fun v => at2 0 (FF Ws ee V) i v * at2 0 (FB Ws ee V) i v) ((FF Ws ee V).getD i []).length := fun i => rfl
  have hdB : ∀ i, i < Ws.length → dot (FB Ws ee V) i (at2 0 (FF Ws ee V) i) = addTo (fun v => at2 0 (FF Ws ee V) i v * at2 0 (FB Ws ee V) i v) ((FF Ws ee V).getD i []).length := fun i hi => by
    unfold dot
    rw [lenFB i hi]
    exact addTo_congr fun v _ => Nat.mul_comm _ _
  have hstepF : ∀ k, k < ee.length → dot (FF Ws ee V) (k + 1) (at2 0 (FB Ws ee V) (k + 1)) = esum (at2 0 (FF Ws ee V) k) (at2 0 (FB Ws ee V) (k + 1)) (ee.getD k []) (V.getD k []) := fun k hk => by
    have h1 := F2 k hk (at2 0 (FB Ws ee V) (k + 1))
    rw [show 0 + k + 1 = k + 1 by omega, show 0 + k = k by omega] at h1
    exact h1
  have hstepB : ∀ k, k < ee.length → dot (FB Ws ee V) k (at2 0 (FF Ws ee V) k) = esum (at2 0 (FF Ws ee V) k) (at2 0 (FB Ws ee V) (k + 1)) (ee.getD k []) (V.getD k []) := fun k hk => B2 k hk _
  have hS : ∀ i, i < ee.length → addTo (fun v => at2 0 (FF Ws ee V) i v * at2 0 (FB Ws ee V) i v) ((FF Ws ee V).getD i []).length = addTo (fun v => at2 0 (FF Ws ee V) (i + 1) v * at2 0 (FB Ws ee V) (i + 1) v) ((FF Ws ee V).getD (i + 1) []).length := fun i hi => by
    rw [← hdB i (by omega), hstepB i hi, ← hstepF i hi, hdF]
  have hBn : ∀ v, at2 0 (FB Ws ee V) ee.length v = if v = 0 then 1 else 0 := fun v => by
    have h1 := at2_row (B1 ee.length (Nat.le_refl _)) v
    show at2 0 (bwdAll 0 upN ee V ee.length (set2 (initR Ws (0 : Nat)) ee.length 0 1)) ee.length v = _
    rw [h1, at2_set2, at2_init]
    by_cases hv : v = 0
    · have h2 := f0.row ee.length (by omega)
      have h3 := (hL.wide ee.length (by omega)).1
      rw [if_pos ⟨rfl, hv, by rw [f0.len]; omega, by omega⟩, if_pos hv]
    · rw [if_neg (fun h => hv h.2.1), if_neg hv]
  have hF0 : ∀ v, at2 0 (FF Ws ee V) 0 v = if v = 0 then 1 else 0 := fun v => by
    have h1 := at2_row (F1 0 (Nat.le_refl _)) v
    show at2 0 (fwdAll 0 upN (set2 (initR Ws (0 : Nat)) 0 0 1) 0 ee V) 0 v = _
    rw [h1, at2_set2, at2_init]
    by_cases hv : v = 0
    · have h2 := f0.row 0 (by omega)
      have h3 := (hL.wide 0 (by omega)).1
      rw [if_pos ⟨rfl, hv, by rw [f0.len]; omega, by omega⟩, if_pos hv]
    · rw [if_neg (fun h => hv h.2.1), if_neg hv]
  have hSn : addTo (fun v => at2 0 (FF Ws ee V) ee.length v * at2 0 (FB Ws ee V) ee.length v) ((FF Ws ee V).getD ee.length []).length = at2 0 (FF Ws ee V) ee.length 0 := by
    have h2 := gF.row ee.length (by omega)
    have h3 := (hL.wide ee.length (by omega)).1
    rw [addTo_one (g := fun _ => 0) (k := 0) (c := at2 0 (FF Ws ee V) ee.length 0) (by omega) (fun v _ => by
      rw [hBn v]
      by_cases hv : v = 0
      · subst hv; simp
      · simp [hv]), addTo_zero (fun _ _ => rfl), Nat.zero_add]
  have hall : ∀ d i, i + d = ee.length → addTo (fun v => at2 0 (FF Ws ee V) i v * at2 0 (FB Ws ee V) i v) ((FF Ws ee V).getD i []).length = at2 0 (FF Ws ee V) ee.length 0 := by
    intro d
    induction d with
    | zero => intro i hi; obtain rfl : i = ee.length := by omega
              exact hSn
    | succ d ih => intro i hi; rw [hS i (by omega)]; exact ih (i + 1) (by omega)
  have hS0 := hall ee.length 0 (by omega)
  refine ⟨fun i hi => hall (ee.length - i) i (by omega), ?_, fun i hi => ?_⟩
  · rw [← hS0]
    have h2 := gF.row 0 (by omega)
    have h3 := (hL.wide 0 (by omega)).1
    rw [addTo_one (g := fun _ => 0) (k := 0) (c := at2 0 (FB Ws ee V) 0 0) (by omega) (fun v _ => by
      rw [hF0 v]
      by_cases hv : v = 0
      · subst hv; simp
      · simp [hv]), addTo_zero (fun _ _ => rfl), Nat.zero_add]
  · rw [thr_sum, ← hstepF i hi, hdF]
    exact hall (ee.length - (i + 1)) (i + 1) (by omega)
end Go.Proofs.Ytjadgomakoaibaa
