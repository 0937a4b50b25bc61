/- Part of WholeTraces. -/
import Derived.Test.YtoalkldfhkabnaaGreatDoorW00
set_option linter.all false
set_option maxRecDepth 10000
set_option maxHeartbeats 16000000
namespace Go.Proofs.YtoalkldfhkabnaaGreatDoor
section
namespace Fq
structure Fld where
 q : Nat
 add : Nat -> Nat -> Nat
 mul : Nat -> Nat -> Nat
 neg : Nat -> Nat
 inv : Nat -> Nat
structure Fld.Ok (F : Fld) : Prop where
 q1 : 1 < F.q
 addL : ∀ x y, x < F.q -> y < F.q -> F.add x y < F.q
 mulL : ∀ x y, x < F.q -> y < F.q -> F.mul x y < F.q
 negL : ∀ x, x < F.q -> F.neg x < F.q
 invL : ∀ x, x < F.q -> F.inv x < F.q
 addC : ∀ x y, x < F.q -> y < F.q -> F.add x y = F.add y x
 addA : ∀ x y z, x < F.q -> y < F.q -> z < F.q -> F.add (F.add x y) z = F.add x (F.add y z)
 add0 : ∀ x, x < F.q -> F.add x 0 = x
 addN : ∀ x, x < F.q -> F.add x (F.neg x) = 0
 mulC : ∀ x y, x < F.q -> y < F.q -> F.mul x y = F.mul y x
 mulA : ∀ x y z, x < F.q -> y < F.q -> z < F.q -> F.mul (F.mul x y) z = F.mul x (F.mul y z)
 mul1 : ∀ x, x < F.q -> F.mul x 1 = x
 mulD : ∀ x y z, x < F.q -> y < F.q -> z < F.q -> F.mul x (F.add y z) = F.add (F.mul x y) (F.mul x z)
 mulI : ∀ x, x < F.q -> x ≠ 0 -> F.mul x (F.inv x) = 1
section
variable {F : Fld} (h : F.Ok)
include h
theorem Fld.Ok.q0 : 0 < F.q := by have := h.q1; omega
theorem Fld.Ok.zadd {x : Nat} (hx : x < F.q) : F.add 0 x = x := by rw [h.addC _ _ h.q0 hx, h.add0 _ hx]
theorem Fld.Ok.nadd {x : Nat} (hx : x < F.q) : F.add (F.neg x) x = 0 := by rw [h.addC _ _ (h.negL _ hx) hx, h.addN _ hx]
theorem Fld.Ok.cancel {x y z : Nat} (hx : x < F.q) (hy : y < F.q) (hz : z < F.q) (e : F.add x y = F.add x z) : y = z := by
 have : F.add (F.neg x) (F.add x y) = F.add (F.neg x) (F.add x z) := by rw [e]
 rwa [<- h.addA _ _ _ (h.negL _ hx) hx hy, <- h.addA _ _ _ (h.negL _ hx) hx hz, h.nadd hx, h.zadd hy, h.zadd hz] at this
theorem Fld.Ok.mul0 {x : Nat} (hx : x < F.q) : F.mul x 0 = 0 := by
 have h0 := h.q0
 have e := h.mulD x 0 0 hx h0 h0
 rw [h.add0 _ h0] at e
 have hm := h.mulL x 0 hx h0
 refine h.cancel hm hm h0 ?_
 rw [<- e, h.add0 _ hm]
theorem Fld.Ok.zmul {x : Nat} (hx : x < F.q) : F.mul 0 x = 0 := by rw [h.mulC _ _ h.q0 hx, h.mul0 hx]
theorem Fld.Ok.omul {x : Nat} (hx : x < F.q) : F.mul 1 x = x := by rw [h.mulC _ _ h.q1 hx, h.mul1 _ hx]
theorem Fld.Ok.mulDr {x y z : Nat} (hx : x < F.q) (hy : y < F.q) (hz : z < F.q) : F.mul (F.add x y) z = F.add (F.mul x z) (F.mul y z) := by
 rw [h.mulC _ _ (h.addL _ _ hx hy) hz, h.mulD _ _ _ hz hx hy, h.mulC _ _ hz hx, h.mulC _ _ hz hy]
theorem Fld.Ok.neg0 : F.neg 0 = 0 := by
 have h0 := h.q0
 have := h.addN 0 h0
 rwa [h.zadd (h.negL _ h0)] at this
theorem Fld.Ok.inv1 : F.inv 1 = 1 := by
 have := h.mulI 1 h.q1 (by omega)
 rwa [h.omul (h.invL _ h.q1)] at this
theorem Fld.Ok.mulneg {x y : Nat} (hx : x < F.q) (hy : y < F.q) : F.mul (F.neg x) y = F.neg (F.mul x y) := by
 have hm := h.mulL _ _ hx hy
 refine h.cancel hm (h.mulL _ _ (h.negL _ hx) hy) (h.negL _ hm) ?_
 rw [h.addN _ hm, <- h.mulDr hx (h.negL _ hx) hy, h.addN _ hx, h.zmul hy]
theorem Fld.Ok.add4 {a b c d : Nat} (ha : a < F.q) (hb : b < F.q) (hc : c < F.q) (hd : d < F.q) : F.add (F.add a b) (F.add c d) = F.add (F.add a c) (F.add b d) := by
 rw [h.addA _ _ _ ha hb (h.addL _ _ hc hd), <- h.addA _ _ _ hb hc hd, h.addC b c hb hc, h.addA _ _ _ hc hb hd, <- h.addA _ _ _ ha hc (h.addL _ _ hb hd)]
end
def fsum (F : Fld) (f : Nat -> Nat) : Nat -> Nat
 | 0 => 0
 | k + 1 => F.add (fsum F f k) (f k)
section
variable {F : Fld} (h : F.Ok) {f g : Nat -> Nat}
include h
theorem De (k : Nat) (hf : ∀ i, i < k -> f i < F.q) : fsum F f k < F.q := by
 induction k with
 | zero => exact h.q0
 | succ k ih => exact h.addL _ _ (ih fun i hi => hf i (by omega)) (hf k (by omega))
omit h in
theorem Bp (k : Nat) (e : ∀ i, i < k -> f i = g i) : fsum F f k = fsum F g k := by
 induction k with
 | zero => rfl
 | succ k ih => rw [fsum, fsum, ih fun i hi => e i (by omega), e k (by omega)]
theorem Hv (k : Nat) (hf : ∀ i, i < k -> f i = 0) : fsum F f k = 0 := by
 induction k with
 | zero => rfl
 | succ k ih => rw [fsum, ih fun i hi => hf i (by omega), hf k (by omega), h.add0 _ h.q0]
theorem Ls (k : Nat) (hf : ∀ i, i < k -> f i < F.q) (hg : ∀ i, i < k -> g i < F.q) : fsum F (fun i => F.add (f i) (g i)) k = F.add (fsum F f k) (fsum F g k) := by
 induction k with
 | zero => exact (h.add0 _ h.q0).symm
 | succ k ih =>
  have r0 : ∀ i, i < k -> f i < F.q := fun i hi => hf i (by omega)
  have m1 : ∀ i, i < k -> g i < F.q := fun i hi => hg i (by omega)
  simp only [fsum]; rw [ih r0 m1, h.add4 (De h k r0) (De h k m1) (hf k (by omega)) (hg k (by omega))]
theorem Fv (k : Nat) {c : Nat} (hc : c < F.q) (hf : ∀ i, i < k -> f i < F.q) : fsum F (fun i => F.mul c (f i)) k = F.mul c (fsum F f k) := by
 induction k with
 | zero => exact (h.mul0 hc).symm
 | succ k ih =>
  have r0 : ∀ i, i < k -> f i < F.q := fun i hi => hf i (by omega)
  simp only [fsum]; rw [ih r0, h.mulD _ _ _ hc (De h k r0) (hf k (by omega))]
theorem Ht (k : Nat) {i : Nat} (hi : i < k) (hf : f i < F.q) (hz : ∀ j, j < k -> j ≠ i -> f j = 0) : fsum F f k = f i := by
 induction k with
 | zero => omega
 | succ k ih =>
  rw [fsum]
  by_cases hik : i = k
  ·subst hik
   rw [Hv h i fun j hj => hz j (by omega) (by omega), h.zadd hf]
  ·rw [ih (by omega) fun j hj b0 => hz j (by omega) b0, hz k (by omega) (fun e => hik e.symm), h.add0 _ hf]
theorem Ri (k l : Nat) {u : Nat -> Nat -> Nat} (hu : ∀ i j, i < k -> j < l -> u i j < F.q) : fsum F (fun i => fsum F (u i) l) k = fsum F (fun j => fsum F (fun i => u i j) k) l := by
 induction k with
 | zero => simp only [fsum]; rw [Hv h l fun _ _ => rfl]
 | succ k ih =>
  simp only [fsum]; rw [ih fun i j hi hj => hu i j (by omega) hj, <- Ls h l (fun j hj => De h k fun i hi => hu i j (by omega) hj) (fun j hj => hu k j (by omega) hj)]
end
def ent (R : LQ) (i j : Nat) : Nat := (R.getD i []).getD j 0
def Mat (F : Fld) (n : Nat) (R : LQ) : Prop := ∀ r ∈ R, r.length = n ∧ ∀ x ∈ r, x < F.q
theorem Ap {α : Type} {l : List α} {i : Nat} (h : i < l.length) (d : α) : l.getD i d ∈ l := by
 rw [qa, qh h]; exact qcb h
theorem Mat.len {F : Fld} {n : Nat} {R : LQ} (h : Mat F n R) {i : Nat} (hi : i < R.length) : (R.getD i []).length = n := (h _ (Ap hi _)).1
theorem Mat.lt {F : Fld} {n : Nat} {R : LQ} (h : Mat F n R) (hF : F.Ok) (i j : Nat) : ent R i j < F.q := by
 unfold ent
 by_cases hi : i < R.length
 ·by_cases hj : j < (R.getD i []).length
  ·exact (h _ (Ap hi _)).2 _ (Ap hj _)
  ·simp [qa] at hj ⊢; rw [Mq (by omega)]; exact hF.q0
 ·have : R.getD i [] = [] := by simp [qa, Mq (Nat.le_of_not_lt hi)]
  rw [this]; exact hF.q0
theorem Ns {v u : NQ} {n : Nat} (h1 : v.length = n) (h2 : u.length = n) (h : ∀ j, j < n -> v.getD j 0 = u.getD j 0) : v = u := by
 refine Tq (by omega) fun j h3 h4 => ?_
 have := h j (by omega)
 simpa [qa, h3, h4] using this
def InS (F : Fld) (n : Nat) (R : LQ) (v : NQ) : Prop := v.length = n ∧ ∃ a : Nat -> Nat, (∀ i, a i < F.q) ∧ ∀ j, j < n -> v.getD j 0 = fsum F (fun i => F.mul (a i) (ent R i j)) R.length
def addRow (F : Fld) (v : NQ) (a : Nat) (u : NQ) : NQ := List.zipWith (fun y x => F.add y (F.mul a x)) v u
def Bb (F : Fld) (a : Nat) (u : NQ) : NQ := u.map (F.mul a)
theorem Bv {F : Fld} {v u : NQ} {n a : Nat} (h1 : v.length = n) (h2 : u.length = n) : (addRow F v a u).length = n := by simp [addRow, h1, h2]
theorem Co {F : Fld} {v u : NQ} {n a j : Nat} (h1 : v.length = n) (h2 : u.length = n) (hj : j < n) : (addRow F v a u).getD j 0 = F.add (v.getD j 0) (F.mul a (u.getD j 0)) := by
 simp [addRow, qa, h1, h2, hj]
theorem Gc {F : Fld} {u : NQ} {a : Nat} : (Bb F a u).length = u.length := by simp [Bb]
theorem Lc {F : Fld} {u : NQ} {a j : Nat} (hj : j < u.length) : (Bb F a u).getD j 0 = F.mul a (u.getD j 0) := by
 simp [Bb, qa, hj]
section
variable {F : Fld} (h : F.Ok) {n : Nat} {R S : LQ} {u v : NQ}
include h
theorem InS.lt (hR : Mat F n R) (hv : InS F n R v) {j : Nat} (hj : j < n) : v.getD j 0 < F.q := by
 obtain ⟨_, a, ha, e⟩ := hv
 rw [e j hj]
 exact De h _ fun i _ => h.mulL _ _ (ha i) (hR.lt h i j)
theorem InS.addRow (hR : Mat F n R) (hv : InS F n R v) (hu : InS F n R u) {c : Nat} (hc : c < F.q) : InS F n R (addRow F v c u) := by
 obtain ⟨l1, a, ha, e1⟩ := hv
 obtain ⟨l2, b, hb, e2⟩ := hu
 refine ⟨Bv l1 l2, fun i => F.add (a i) (F.mul c (b i)), fun i => h.addL _ _ (ha i) (h.mulL _ _ hc (hb i)), fun j hj => ?_⟩
 have hE := fun i => hR.lt h i j
 rw [Co l1 l2 hj, e1 j hj, e2 j hj, <- Fv h _ hc fun i _ => h.mulL _ _ (hb i) (hE i), <- Ls h _ (fun i _ => h.mulL _ _ (ha i) (hE i)) (fun i _ => h.mulL _ _ hc (h.mulL _ _ (hb i) (hE i)))]
 refine Bp _ fun i _ => ?_
 rw [h.mulDr (ha i) (h.mulL _ _ hc (hb i)) (hE i), h.mulA _ _ _ hc (hb i) (hE i)]
theorem InS.scale (hR : Mat F n R) (hu : InS F n R u) {c : Nat} (hc : c < F.q) : InS F n R (Bb F c u) := by
 obtain ⟨l2, b, hb, e2⟩ := hu
 refine ⟨by rw [Gc, l2], fun i => F.mul c (b i), fun i => h.mulL _ _ hc (hb i), fun j hj => ?_⟩
 have hE := fun i => hR.lt h i j
 rw [Lc (by omega), e2 j hj, <- Fv h _ hc fun i _ => h.mulL _ _ (hb i) (hE i)]
 exact Bp _ fun i _ => (h.mulA _ _ _ hc (hb i) (hE i)).symm
theorem InS.row (hR : Mat F n R) {i : Nat} (hi : i < R.length) : InS F n R (R.getD i []) := by
 refine ⟨hR.len hi, fun k => if k = i then 1 else 0, fun k => by show (if k = i then 1 else 0) < F.q; split; exact h.q1; exact h.q0, fun j hj => ?_⟩
 have hE := fun i => hR.lt h i j
 rw [Ht h _ hi (by simp only [if_true]; exact h.mulL _ _ h.q1 (hE i)) fun k _ b0 => by simp only [if_neg b0]; exact h.zmul (hE k)]
 simp only [if_true]
 rw [h.omul (hE i)]; rfl
theorem InS.zero (hR : Mat F n R) (hv : v.length = n) (hz : ∀ j, j < n -> v.getD j 0 = 0) : InS F n R v :=
 ⟨hv, fun _ => 0, fun _ => h.q0, fun j hj => by rw [hz j hj, Hv h _ fun i _ => h.zmul (hR.lt h i j)]⟩
theorem InS.trans (hS : Mat F n S) (hall : ∀ i, i < R.length -> InS F n S (R.getD i [])) (hv : InS F n R v) : InS F n S v := by
 obtain ⟨l, a, ha, e⟩ := hv
 have hb : ∀ i, ∃ b : Nat -> Nat, (∀ k, b k < F.q) ∧ (i < R.length -> ∀ j, j < n -> ent R i j = fsum F (fun k => F.mul (b k) (ent S k j)) S.length) := fun i => by
  by_cases hi : i < R.length
  ·obtain ⟨_, b, hb, e'⟩ := hall i hi
   exact ⟨b, hb, fun _ => e'⟩
  ·exact ⟨fun _ => 0, fun _ => h.q0, fun h9 => absurd h9 hi⟩
 let b := fun i => (hb i).choose
 have o0 : ∀ i k, b i k < F.q := fun i => (hb i).choose_spec.1
 have c2 : ∀ i, i < R.length -> ∀ j, j < n -> ent R i j = fsum F (fun k => F.mul (b i k) (ent S k j)) S.length := fun i => (hb i).choose_spec.2
 refine ⟨l, fun k => fsum F (fun i => F.mul (a i) (b i k)) R.length, fun k => De h _ fun i _ => h.mulL _ _ (ha i) (o0 i k), fun j hj => ?_⟩
 have hE := fun i => hS.lt h i j
 rw [e j hj, Bp (g := fun i => fsum F (fun k => F.mul (F.mul (a i) (b i k)) (ent S k j)) S.length) _ fun i hi => ?_]
 ·rw [Ri h _ _ fun i k _ _ => h.mulL _ _ (h.mulL _ _ (ha i) (o0 i k)) (hE k)]
  refine Bp _ fun k hk => ?_
  rw [h.mulC _ _ (De h _ fun i _ => h.mulL _ _ (ha i) (o0 i k)) (hE k), <- Fv h _ (hE k) fun i _ => h.mulL _ _ (ha i) (o0 i k)]; exact Bp _ fun i _ => h.mulC _ _ (h.mulL _ _ (ha i) (o0 i k)) (hE k)
 ·rw [c2 i hi j hj, <- Fv h _ (ha i) fun k _ => h.mulL _ _ (o0 i k) (hE k)]
  exact Bp _ fun k _ => (h.mulA _ _ _ (ha i) (o0 i k) (hE k)).symm
end
end Fq
namespace Fq
structure Rref (F : Fld) (n : Nat) (R : LQ) (P : NQ) : Prop where
 mat : Mat F n R
 len : R.length = P.length
 lt : ∀ i, i < P.length -> P.getD i 0 < n
 inc : ∀ i j, i < j -> j < P.length -> P.getD i 0 < P.getD j 0
 unit : ∀ i j, i < P.length -> j < P.length -> ent R i (P.getD j 0) = if i = j then 1 else 0
 zero : ∀ i j, i < P.length -> j < P.getD i 0 -> ent R i j = 0
section
variable {F : Fld} (h : F.Ok) {n : Nat} {R S : LQ} {P Q : NQ} {u v : NQ}
include h
theorem fW {k c : Nat} {a : Nat -> Nat} (ha : ∀ i, a i < F.q) (hc : c < k) {f : Nat -> Nat} (hf : ∀ i, i < k -> f i = if i = c then 1 else 0) : fsum F (fun i => F.mul (a i) (f i)) k = a c := by
 rw [Ht h k hc]
 ·rw [hf c hc, if_pos rfl, h.mul1 _ (ha c)]
 ·rw [hf c hc, if_pos rfl, h.mul1 _ (ha c)]; exact ha c
 ·intro j hj b0
  rw [hf j hj, if_neg b0, h.mul0 (ha j)]
theorem Rref.coef (hR : Rref F n R P) (hv : InS F n R v) : ∀ j, j < n -> v.getD j 0 = fsum F (fun i => F.mul (v.getD (P.getD i 0) 0) (ent R i j)) R.length := by
 obtain ⟨l, a, ha, e⟩ := hv
 intro j hj
 rw [e j hj]
 refine Bp _ fun i hi => ?_
 have d0 : i < P.length := by rw [<- hR.len]; exact hi
 rw [e _ (hR.lt i d0), fW h ha hi fun k hk => hR.unit k i (by rw [<- hR.len]; exact hk) d0]
theorem Rref.same (hR : Rref F n R P) (hv : InS F n R v) (hu : InS F n R u) (e : ∀ i, i < P.length -> v.getD (P.getD i 0) 0 = u.getD (P.getD i 0) 0) : v = u := by
 refine Ns hv.1 hu.1 fun j hj => ?_
 rw [hR.coef h hv j hj, hR.coef h hu j hj]
 exact Bp _ fun i hi => by rw [e i (by rw [<- hR.len]; exact hi)]
theorem Rref.lead (hR : Rref F n R P) (hv : InS F n R v) {c : Nat} (hc : c < n) (hz : ∀ j, j < c -> v.getD j 0 = 0) (b0 : v.getD c 0 ≠ 0) : ∃ i, i < P.length ∧ P.getD i 0 = c := by
 refine Classical.byContradiction fun g0 => b0 ?_
 rw [hR.coef h hv c hc]
 refine Hv h _ fun i hi => ?_
 have d0 : i < P.length := by rw [<- hR.len]; exact hi
 have hE := hR.mat.lt h i c
 by_cases hp : P.getD i 0 < c
 ·rw [hz _ hp, h.zmul hE]
 ·have : c < P.getD i 0 := by
   have : P.getD i 0 ≠ c := fun e => g0 ⟨i, d0, e⟩
   omega
  rw [hR.zero i c d0 this, h.mul0 (hv.lt h hR.mat (hR.lt i d0))]
theorem Rref.sub (hR : Rref F n R P) (hS : Rref F n S Q) (hall : ∀ i, i < S.length -> InS F n R (S.getD i [])) : ∀ i, i < Q.length -> ∃ k, k < P.length ∧ P.getD k 0 = Q.getD i 0 := by
 intro i hi
 refine hR.lead h (hall i (by rw [hS.len]; exact hi)) (hS.lt i hi) (fun j hj => hS.zero i j hi hj) ?_
 have := hS.unit i i hi hi
 rw [if_pos rfl] at this
 unfold ent at this
 rw [this]; omega
omit h in
theorem Rs : ∀ {P Q : NQ}, (∀ i j, i < j -> j < P.length -> P.getD i 0 < P.getD j 0) -> (∀ i j, i < j -> j < Q.length -> Q.getD i 0 < Q.getD j 0) ->
  (∀ i, i < Q.length -> ∃ k, k < P.length ∧ P.getD k 0 = Q.getD i 0) -> (∀ i, i < P.length -> ∃ k, k < Q.length ∧ Q.getD k 0 = P.getD i 0) -> P = Q
 | [], [], _, _, _, _ => rfl
 | [], q :: Q, _, _, h3, _ => by obtain ⟨k, hk, _⟩ := h3 0 (by simp); simp at hk
 | p :: P, [], _, _, _, h4 => by obtain ⟨k, hk, _⟩ := h4 0 (by simp); simp at hk
 | p :: P, q :: Q, h1, h2, h3, h4 => by
  have lo : ∀ {a : Nat} {A : NQ}, (∀ i j, i < j -> j < (a :: A).length -> (a :: A).getD i 0 < (a :: A).getD j 0) -> ∀ k, k < (a :: A).length -> a <= (a :: A).getD k 0 := by
   intro a A hA k hk
   rcases Xq k with rfl | hk0
   ·simp
   ·have := hA 0 k hk0 hk
    simp at this ⊢; omega
  have e : p = q := by
   obtain ⟨k, hk, e1⟩ := h3 0 (by simp); obtain ⟨l, hl, e2⟩ := h4 0 (by simp); have a1 := lo h1 k hk; have a2 := lo h2 l hl; simp only [qda] at e1 e2; omega
  subst e; have up : ∀ {a : Nat} {A B : NQ}, (∀ i j, i < j -> j < (a :: A).length -> (a :: A).getD i 0 < (a :: A).getD j 0) -> (∀ i j, i < j -> j < (a :: B).length -> (a :: B).getD i 0 < (a :: B).getD j 0) ->
    (∀ i, i < (a :: A).length -> ∃ k, k < (a :: B).length ∧ (a :: B).getD k 0 = (a :: A).getD i 0) -> ∀ i, i < A.length -> ∃ k, k < B.length ∧ B.getD k 0 = A.getD i 0 := by
   intro a A B hA hB y1 i hi; obtain ⟨k, hk, e⟩ := y1 (i + 1) (by simpa using hi)
   cases k with
   | zero =>
    have := hA 0 (i + 1) (by omega) (by simpa using hi); simp at e this; omega
   | succ k => exact ⟨k, by simpa using hk, by simpa using e⟩
  have tl : ∀ {a : Nat} {A : NQ}, (∀ i j, i < j -> j < (a :: A).length -> (a :: A).getD i 0 < (a :: A).getD j 0) -> ∀ i j, i < j -> j < A.length -> A.getD i 0 < A.getD j 0 := by
   intro a A hA i j n1 hj; have := hA (i + 1) (j + 1) (by omega) (by simpa using hj); simpa using this
  rw [Rs (tl h1) (tl h2) (up h2 h1 h3) (up h1 h2 h4)]
theorem Rref.unique (hR : Rref F n R P) (hS : Rref F n S Q) (h1 : ∀ i, i < R.length -> InS F n S (R.getD i [])) (h2 : ∀ i, i < S.length -> InS F n R (S.getD i [])) : R = S ∧ P = Q := by
 have e : P = Q := Rs hR.inc hS.inc (hR.sub h hS h2) (hS.sub h hR h1)
 subst e
 have hl : R.length = S.length := hR.len.trans hS.len.symm
 refine ⟨Tq hl fun i h3 h4 => ?_, rfl⟩
 have e1 : R.getD i [] = R[i] := by simp [qa, h3]
 have e2 : S.getD i [] = S[i] := by simp [qa, h4]
 rw [<- e1, <- e2]
 have hi : i < P.length := by rw [<- hR.len]; exact h3
 refine hS.same h (h1 i h3) (InS.row h hS.mat h4) fun j hj => ?_
 have a1 := hR.unit i j hi hj
 have a2 := hS.unit i j hi hj
 unfold ent at a1 a2
 rw [a1, a2]
end
def fpiv (R : LQ) (c : Nat) : Nat -> Nat -> Nat
 | 0, k => k
 | f + 1, k => if ent R k c = 0 then fpiv R c f (k + 1) else k
theorem Jl (R : LQ) (c : Nat) : ∀ f k, k <= fpiv R c f k ∧ fpiv R c f k <= k + f ∧ (∀ i, k <= i -> i < fpiv R c f k -> ent R i c = 0) ∧ (fpiv R c f k < k + f -> ent R (fpiv R c f k) c ≠ 0)
 | 0, k => ⟨qb _, qb _, fun i h1 h2 => absurd h2 (by simp only [fpiv]; omega), fun h => absurd h (by simp [fpiv])⟩
 | f + 1, k => by
  simp only [fpiv]; split
  ·rename_i hz
   obtain ⟨h1, h2, h3, h4⟩ := Jl R c f (k + 1); refine ⟨by omega, by omega, fun i t0 l0 => ?_, fun h5 => h4 (by omega)⟩
   by_cases e : i = k
   ·rw [e]; exact hz
   ·exact h3 i (by omega) l0
  ·rename_i hz
   exact ⟨qb _, by omega, fun i h1 h2 => absurd h2 (by omega), fun _ => hz⟩
def Cf (R : LQ) (i k : Nat) : LQ := (R.set i (R.getD k [])).set k (R.getD i [])
def clr (F : Fld) (R : LQ) (a c : Nat) : Nat -> LQ
 | 0 => R
 | i + 1 => if i = a then clr F R a c i else (clr F R a c i).set i (addRow F ((clr F R a c i).getD i []) (F.neg (ent (clr F R a c i) i c)) (R.getD a []))
def Cx (F : Fld) (R : LQ) (a c : Nat) : LQ := R.set a (Bb F (F.inv (ent R a c)) (R.getD a []))
def Bg (F : Fld) (c : Nat) (st : LQ × NQ) : LQ × NQ :=
 let a := st.2.length
 let k := fpiv st.1 c (st.1.length - a) a
 if k < st.1.length then (clr F (Cx F (Cf st.1 a k) a c) a c st.1.length, st.2 ++ [c]) else st
def elim (F : Fld) (R : LQ) : Nat -> LQ × NQ
 | 0 => (R, [])
 | c + 1 => Bg F c (elim F R c)
def Bc (F : Fld) (R : LQ) (n : Nat) : LQ × NQ := ((elim F R n).1.take (elim F R n).2.length, (elim F R n).2)
end Fq
namespace Fq
section
variable {F : Fld} (h : F.Ok) {n : Nat} {R S T : LQ} {P : NQ}
theorem Nv (R : LQ) (i k : Nat) (r : NQ) (hi : i < R.length) : (R.set i r).getD k [] = if k = i then r else R.getD k [] := by
 by_cases e : k = i
 ·subst e; simp [qa, hi]
 ·rw [if_neg e, qa, qa, qbf (Ne.symm e)]
theorem Mat.set (hR : Mat F n R) (i : Nat) {r : NQ} (h1 : r.length = n) (h2 : ∀ x ∈ r, x < F.q) : Mat F n (R.set i r) := by
 intro u hu
 rcases Oq hu with h3 | h3
 ·exact hR u h3
 ·subst h3; exact ⟨h1, h2⟩
theorem Mat.rowLt (hR : Mat F n R) {i : Nat} (hi : i < R.length) : ∀ x ∈ R.getD i [], x < F.q := (hR _ (Ap hi _)).2
include h
theorem Gf {u v : NQ} {c : Nat} (hc : c < F.q) (hv : ∀ x ∈ v, x < F.q) (hu : ∀ x ∈ u, x < F.q) : ∀ x ∈ addRow F v c u, x < F.q := by
 intro x hx
 unfold addRow at hx
 rw [Iq] at hx
 obtain ⟨i, hi, rfl⟩ := hx
 rw [List.length_zipWith] at hi
 rw [List.getElem_zipWith]
 exact h.addL _ _ (hv _ (qcb _)) (h.mulL _ _ hc (hu _ (qcb _)))
theorem Vr {u : NQ} {c : Nat} (hc : c < F.q) (hu : ∀ x ∈ u, x < F.q) : ∀ x ∈ Bb F c u, x < F.q := by
 intro x hx
 obtain ⟨y, hy, rfl⟩ := qz.1 hx
 exact h.mulL _ _ hc (hu y hy)
def Eqv (F : Fld) (n : Nat) (R S : LQ) : Prop := (∀ i, i < R.length -> InS F n S (R.getD i [])) ∧ ∀ i, i < S.length -> InS F n R (S.getD i [])
theorem Eqv.refl (hR : Mat F n R) : Eqv F n R R := ⟨fun _ hi => InS.row h hR hi, fun _ hi => InS.row h hR hi⟩
theorem Eqv.trans (hR : Mat F n R) (hT : Mat F n T) (h1 : Eqv F n R S) (h2 : Eqv F n S T) : Eqv F n R T :=
 ⟨fun i hi => InS.trans h hT h2.1 (h1.1 i hi), fun i hi => InS.trans h hR h1.2 (h2.2 i hi)⟩
omit h in
theorem Eh (R : LQ) (i k : Nat) : (Cf R i k).length = R.length := by simp [Cf]
omit h in
theorem Gl {i k : Nat} (hi : i < R.length) (hk : k < R.length) (l : Nat) : (Cf R i k).getD l [] = R.getD (if l = k then i else if l = i then k else l) [] := by
 unfold Cf
 rw [Nv _ _ _ _ (by simpa using hk), Nv _ _ _ _ hi]
 split
 ·rfl
 ·split <;> rfl
omit h in
theorem Hr (hR : Mat F n R) {i k : Nat} (hi : i < R.length) (hk : k < R.length) : Mat F n (Cf R i k) :=
 (hR.set i (hR.len hk) (hR.rowLt hk)).set k (hR.len hi) (hR.rowLt hi)
theorem fO (hR : Mat F n R) {i k : Nat} (hi : i < R.length) (hk : k < R.length) : Eqv F n R (Cf R i k) := by
 have hS := Hr hR hi hk
 refine ⟨fun l hl => ?_, fun l hl => ?_⟩
 ·have e : R.getD l [] = (Cf R i k).getD (if l = k then i else if l = i then k else l) [] := by
   rw [Gl hi hk]
   congr 1
   by_cases h1 : l = k
   ·subst h1
    simp only [if_true]
    by_cases h2 : i = l
    ·rw [if_pos h2]; exact h2.symm
    ·rw [if_neg h2]
   ·rw [if_neg h1]
    by_cases h2 : l = i
    ·subst h2; simp
    ·simp [h1, h2]
  rw [e]; refine InS.row h hS ?_; rw [Eh]; split
  ·exact hi
  ·split
   ·exact hk
   ·exact hl
 ·rw [Gl hi hk]
  refine InS.row h hR ?_; rw [Eh] at hl; split
  ·exact hi
  ·split
   ·exact hk
   ·exact hl
omit h in
theorem Fi (R : LQ) (a c : Nat) : (Cx F R a c).length = R.length := by simp [Cx]
theorem Hw (hR : Mat F n R) {a c : Nat} (ha : a < R.length) : Mat F n (Cx F R a c) :=
 hR.set a (by rw [Gc, hR.len ha]) (Vr h (h.invL _ (hR.lt h a c)) (hR.rowLt ha))
omit h in
theorem Jr {a c : Nat} (ha : a < R.length) (l : Nat) : (Cx F R a c).getD l [] = if l = a then Bb F (F.inv (ent R a c)) (R.getD a []) else R.getD l [] := Nv _ _ _ _ ha
theorem fJ {u : NQ} {x : Nat} (hx : x < F.q) (h0 : x ≠ 0) (hu : ∀ y ∈ u, y < F.q) : Bb F x (Bb F (F.inv x) u) = u := by
 unfold Bb
 rw [qcp]
 refine (qbh fun y hy => ?_).trans (List.map_id _)
 show F.mul x (F.mul (F.inv x) y) = y
 rw [<- h.mulA _ _ _ hx (h.invL _ hx) (hu y hy), h.mulI x hx h0, h.omul (hu y hy)]
theorem gI (hR : Mat F n R) {a c : Nat} (ha : a < R.length) (h0 : ent R a c ≠ 0) : Eqv F n R (Cx F R a c) := by
 have hS := Hw h hR (c := c) ha
 have hx := hR.lt h a c
 refine ⟨fun l hl => ?_, fun l hl => ?_⟩
 ·by_cases e : l = a
  ·subst e
   rw [<- fJ h hx h0 (hR.rowLt hl)]; have := InS.row h hS (i := l) (by rw [Fi]; exact hl); rw [Jr ha, if_pos rfl] at this; exact InS.scale h hS this hx
  ·have := InS.row h hS (i := l) (by rw [Fi]; exact hl)
   rwa [Jr ha, if_neg e] at this
 ·rw [Fi] at hl
  rw [Jr ha]; split
  ·exact InS.scale h hR (InS.row h hR ha) (h.invL _ hx)
  ·exact InS.row h hR hl
omit h in
theorem Ea (R : LQ) (a c : Nat) : ∀ m, (clr F R a c m).length = R.length
 | 0 => rfl
 | m + 1 => by
  simp only [clr]; split
  ·exact Ea R a c m
  ·rw [qai, Ea R a c m]
omit h in
theorem Fo {a c : Nat} : ∀ m, m <= R.length -> ∀ l, (clr F R a c m).getD l [] = if l < m ∧ l ≠ a then addRow F (R.getD l []) (F.neg (ent R l c)) (R.getD a []) else R.getD l []
 | 0, _, l => by simp [clr]
 | m + 1, hm, l => by
  have ih := Fo (a := a) (c := c) m (by omega); simp only [clr]
  by_cases e : m = a
  ·rw [if_pos e, ih]
   by_cases h1 : l < m
   ·simp [h1, show l < m + 1 by omega]
   ·rw [if_neg (by omega), if_neg (by omega)]
  ·rw [if_neg e, Nv _ _ _ _ (by rw [Ea]; omega)]
   by_cases h1 : l = m
   ·subst h1
    have e2 : (clr F R a c l).getD l [] = R.getD l [] := by rw [ih, if_neg (by omega)]
    rw [if_pos rfl, if_pos ⟨by omega, e⟩, e2]; unfold ent; rw [e2]
   ·rw [if_neg h1, ih]
    by_cases h2 : l < m
    ·simp [h2, show l < m + 1 by omega]
    ·rw [if_neg (by omega), if_neg (by omega)]
theorem bK (hR : Mat F n R) {a c : Nat} (ha : a < R.length) : Mat F n (clr F R a c R.length) := by
 intro u hu
 obtain ⟨l, hl, rfl⟩ := Iq.1 hu
 have e : (clr F R a c R.length)[l] = (clr F R a c R.length).getD l [] := by simp [qa, hl]
 rw [e, Fo _ (qb _)]
 rw [Ea] at hl
 split
 ·exact ⟨Bv (hR.len hl) (hR.len ha), Gf h (h.negL _ (hR.lt h l c)) (hR.rowLt hl) (hR.rowLt ha)⟩
 ·exact hR _ (Ap hl _)
theorem Xd {u v : NQ} {c : Nat} (h1 : v.length = n) (h2 : u.length = n) (hc : c < F.q) (hv : ∀ x ∈ v, x < F.q) (hu : ∀ x ∈ u, x < F.q) : addRow F (addRow F v (F.neg c) u) c u = v := by
 refine Ns (Bv (Bv h1 h2) h2) h1 fun j hj => ?_
 rw [Co (Bv h1 h2) h2 hj, Co h1 h2 hj]
 have a1 : v.getD j 0 < F.q := hv _ (Ap (by omega) _)
 have a2 : u.getD j 0 < F.q := hu _ (Ap (by omega) _)
 have a3 := h.mulL _ _ hc a2
 rw [h.mulneg hc a2, h.addA _ _ _ a1 (h.negL _ a3) a3, h.nadd a3, h.add0 _ a1]
theorem pN (hR : Mat F n R) {a c : Nat} (ha : a < R.length) : Eqv F n R (clr F R a c R.length) := by
 have hS := bK h hR (c := c) ha
 have ea : (clr F R a c R.length).getD a [] = R.getD a [] := by rw [Fo _ (qb _), if_neg (by omega)]
 have w1 : InS F n (clr F R a c R.length) (R.getD a []) := by
  have := InS.row h hS (i := a) (by rw [Ea]; exact ha)
  rwa [ea] at this
 refine ⟨fun l hl => ?_, fun l hl => ?_⟩
 ·by_cases e : l = a
  ·rw [e]; exact w1
  ·have := InS.row h hS (i := l) (by rw [Ea]; exact hl)
   rw [Fo _ (qb _), if_pos ⟨hl, e⟩] at this; have h2 := InS.addRow h hS this w1 (hR.lt h l c)
   rwa [Xd h (hR.len hl) (hR.len ha) (hR.lt h l c) (hR.rowLt hl) (hR.rowLt ha)] at h2
 ·rw [Ea] at hl
  rw [Fo _ (qb _)]; split
  ·exact InS.addRow h hR (InS.row h hR hl) (InS.row h hR ha) (h.negL _ (hR.lt h l c))
  ·exact InS.row h hR hl
structure EInv (F : Fld) (n : Nat) (R0 : LQ) (c : Nat) (R : LQ) (P : NQ) : Prop where
 mat : Mat F n R
 len : R.length = R0.length
 eqv : Eqv F n R0 R
 ple : P.length <= R.length
 lt : ∀ i, i < P.length -> P.getD i 0 < c
 inc : ∀ i j, i < j -> j < P.length -> P.getD i 0 < P.getD j 0
 unit : ∀ i j, i < R.length -> j < P.length -> ent R i (P.getD j 0) = if i = j then 1 else 0
 zero : ∀ i j, i < P.length -> j < P.getD i 0 -> ent R i j = 0
 low : ∀ i j, P.length <= i -> i < R.length -> j < c -> ent R i j = 0
omit h in
theorem Hu (P : NQ) (c i : Nat) : (P ++ [c]).getD i 0 = if i < P.length then P.getD i 0 else if i = P.length then c else 0 := by
 simp only [qa, List.getElem?_append]
 split
 ·rfl
 ·split
  ·rename_i h1 h2; subst h2; simp
  ·rename_i h1 h2
   have : i - P.length ≠ 0 := by omega
   cases hk : i - P.length with
   | zero => exact absurd hk this
   | succ k => simp
theorem gW {R0 R : LQ} {c : Nat} {P : NQ} (hc : c < n) (hI : EInv F n R0 c R P) (h0 : Mat F n R0) : EInv F n R0 (c + 1) (Bg F c (R, P)).1 (Bg F c (R, P)).2 := by
 obtain ⟨h1, h2, h3, h4⟩ := Jl R c (R.length - P.length) P.length
 unfold Bg
 simp only
 generalize hk : fpiv R c (R.length - P.length) P.length = k at *
 by_cases hkl : k < R.length
 ·rw [if_pos hkl]
  simp only; have hx := h4 (by omega); have ha : P.length < R.length := by omega
  have m0 := Hr hI.mat ha hkl; have l1 := Eh R P.length k; have e1 : ∀ i j, ent (Cf R P.length k) i j = if i = k then ent R P.length j else if i = P.length then ent R k j else ent R i j := fun i j => by
   unfold ent; rw [Gl ha hkl]
   by_cases a1 : i = k
   ·simp [a1]
   ·by_cases a2 : i = P.length
    ·subst a2; simp [a1]
    ·simp [a1, a2]
  have z1 : ent (Cf R P.length k) P.length c = ent R k c := by
   rw [e1]
   by_cases a1 : P.length = k
   ·rw [if_pos a1, a1]
   ·rw [if_neg a1, if_pos rfl]
  have u1 : ent (Cf R P.length k) P.length c ≠ 0 := by rw [z1]; exact hx
  have q1 := fO h hI.mat ha hkl; generalize hR1 : Cf R P.length k = R1 at *; have v0 : P.length < R1.length := by omega
  have n0 := Hw h m0 (c := c) v0; have q2 := gI h m0 v0 u1; have l2 := Fi (F := F) R1 P.length c; have e2 : ∀ i j, j < n -> ent (Cx F R1 P.length c) i j = if i = P.length then F.mul (F.inv (ent R1 P.length c)) (ent R1 P.length j) else ent R1 i j := fun i j hj => by
   unfold ent; rw [Jr v0]; split
   ·rw [Lc (by rw [m0.len v0]; exact hj)]; rfl
   ·rfl
  generalize hR2 : Cx F R1 P.length c = R2 at *; have y0 : P.length < R2.length := by omega
  have t1 := bK h n0 (c := c) y0; have q3 := pN h n0 (c := c) y0; have l3 := Ea (F := F) R2 P.length c R2.length; have e3 : ∀ i j, i < R2.length -> j < n -> ent (clr F R2 P.length c R2.length) i j = if i = P.length then ent R2 i j else F.add (ent R2 i j) (F.mul (F.neg (ent R2 i c)) (ent R2 P.length j)) := fun i j hi hj => by
   unfold ent; rw [Fo _ (qb _)]
   by_cases a1 : i = P.length
   ·simp [a1]
   ·rw [if_pos ⟨hi, a1⟩, if_neg a1, Co (n0.len hi) (n0.len y0) hj]; rfl
  have lR : R.length = R2.length := by omega
  rw [lR]; generalize hR3 : clr F R2 P.length c R2.length = R3 at *; have v1 : ent R2 P.length c = 1 := by
   rw [e2 _ _ hc, if_pos rfl, h.mulC _ _ (h.invL _ (m0.lt h _ _)) (m0.lt h _ _), h.mulI _ (m0.lt h _ _) u1]
  have w0 : ∀ i j, i < R.length -> j < c -> (∀ i', P.length <= i' -> i' < R.length -> ent R i' j = 0) -> ent R3 i j = if i < P.length then ent R i j else 0 := fun i j hi hj hz => by
   have i1 : j < n := by omega
   have a0 : ent R1 P.length j = 0 := by
    rw [e1]
    by_cases b1 : P.length = k
    ·rw [if_pos b1]; exact hz _ (qb _) ha
    ·rw [if_neg b1, if_pos rfl]; exact hz _ h1 hkl
   have a1 : ent R2 P.length j = 0 := by rw [e2 _ _ i1, if_pos rfl, a0, h.mul0 (h.invL _ (m0.lt h _ _))]
   rw [e3 i j (by omega) i1]
   by_cases b1 : i = P.length
   ·rw [if_pos b1, b1, a1, if_neg (by omega)]
   ·rw [if_neg b1, a1, h.mul0 (h.negL _ (n0.lt h _ _)), h.add0 _ (n0.lt h _ _), e2 _ _ i1, if_neg b1, e1]
    by_cases b2 : i = k
    ·rw [if_pos b2, if_neg (by omega)]
     exact hz _ (qb _) ha
    ·rw [if_neg b2, if_neg b1]
     split
     ·rfl
     ·exact hz _ (by omega) hi
  have x1 : ∀ i, i < R.length -> ent R3 i c = if i = P.length then 1 else 0 := fun i hi => by
   rw [e3 i c (by omega) hc]
   by_cases b1 : i = P.length
   ·rw [if_pos b1, if_pos b1, b1, v1]
   ·have := n0.lt h i c
    rw [if_neg b1, if_neg b1, v1, h.mul1 _ (h.negL _ this), h.addN _ this]
  refine ⟨t1, by rw [l3, <- lR]; exact hI.len, ?_, by simp; omega, ?_, ?_, ?_, ?_, ?_⟩
  ·exact Eqv.trans h h0 t1 (Eqv.trans h h0 n0 (Eqv.trans h h0 m0 hI.eqv q1) q2) q3
  ·intro i hi
   simp at hi; rw [Hu]
   by_cases b1 : i < P.length
   ·rw [if_pos b1]; have := hI.lt i b1; omega
   ·rw [if_neg b1, if_pos (by omega)]; omega
  ·intro i j n1 hj
   simp at hj; rw [Hu, Hu, if_pos (by omega)]
   by_cases b1 : j < P.length
   ·rw [if_pos b1]; exact hI.inc i j n1 b1
   ·rw [if_neg b1, if_pos (by omega)]; exact hI.lt i (by omega)
  ·intro i j hi hj
   simp at hj; rw [l3, <- lR] at hi; rw [Hu]
   by_cases b1 : j < P.length
   ·rw [if_pos b1, w0 i _ hi (hI.lt j b1) fun i' g1 g2 => by rw [hI.unit i' j g2 b1, if_neg (by omega)]]
    by_cases b2 : i < P.length
    ·rw [if_pos b2, hI.unit i j hi b1]
    ·rw [if_neg b2, if_neg (by omega)]
   ·rw [if_neg b1, if_pos (by omega), x1 i hi]
    have : j = P.length := by omega
    rw [this]
  ·intro i j hi hj
   simp at hi; rw [Hu] at hj
   by_cases b1 : i < P.length
   ·rw [if_pos b1] at hj
    have r1 : j < c := by have := hI.lt i b1; omega
    rw [w0 i j (by omega) r1 fun i' g1 g2 => hI.low i' j g1 g2 r1, if_pos b1]; exact hI.zero i j b1 hj
   ·rw [if_neg b1, if_pos (by omega)] at hj
    rw [w0 i j (by omega) hj fun i' g1 g2 => hI.low i' j g1 g2 hj, if_neg b1]
  ·intro i j t0 l0 hj
   simp at t0; rw [l3, <- lR] at l0
   by_cases b1 : j < c
   ·rw [w0 i j l0 b1 fun i' g1 g2 => hI.low i' j g1 g2 b1, if_neg (by omega)]
   ·have : j = c := by omega
    rw [this, x1 i l0, if_neg (by omega)]
 ·rw [if_neg hkl]
  refine ⟨hI.mat, hI.len, hI.eqv, hI.ple, fun i hi => by have := hI.lt i hi; simp only; omega, hI.inc, hI.unit, hI.zero, fun i j t0 l0 hj => ?_⟩
  by_cases b1 : j < c
  ·exact hI.low i j t0 l0 b1
  ·have : j = c := by omega
   subst this; exact h3 i t0 (by simp only at l0; omega)
theorem Fs {R0 : LQ} (h0 : Mat F n R0) : ∀ c, c <= n -> EInv F n R0 c (elim F R0 c).1 (elim F R0 c).2
 | 0, _ => ⟨h0, rfl, Eqv.refl h h0, qe _, fun i hi => by simp [elim] at hi, fun i j _ hj => by simp [elim] at hj, fun i j _ hj => by simp [elim] at hj, fun i j hi => by simp [elim] at hi, fun i j _ _ hj => by omega⟩
 | c + 1, hc => gW h (by omega) (Fs h0 c (by omega)) h0
omit h in
theorem Hs {α : Type} (l : List α) (d : α) {k i : Nat} (hi : i < k) : (l.take k).getD i d = l.getD i d := by
 simp [qa, hi]
theorem Bn {R0 : LQ} (h0 : Mat F n R0) : Rref F n (Bc F R0 n).1 (Bc F R0 n).2 ∧ Eqv F n R0 (Bc F R0 n).1 ∧ (Bc F R0 n).1.length <= R0.length := by
 have hI := Fs h h0 n (qb _)
 unfold Bc
 simp only
 generalize (elim F R0 n).1 = R at *
 generalize (elim F R0 n).2 = P at *
 have hp := hI.ple
 have hM : Mat F n (R.take P.length) := fun r hr => hI.mat r (qbu hr)
 have hl : (R.take P.length).length = P.length := by rw [Sq]; omega
 have he : ∀ i j, i < P.length -> ent (R.take P.length) i j = ent R i j := fun i j hi => by unfold ent; rw [Hs _ _ hi]
 refine ⟨⟨hM, hl, fun i hi => hI.lt i hi, hI.inc, fun i j hi hj => ?_, fun i j hi hj => ?_⟩, ?_, by rw [hl, <- hI.len]; exact hp⟩
 ·rw [he _ _ hi, hI.unit i j (by omega) hj]
 ·rw [he _ _ hi, hI.zero i j hi hj]
 ·refine Eqv.trans h h0 hM hI.eqv ⟨fun i hi => ?_, fun i hi => ?_⟩
  ·by_cases b : i < P.length
   ·have := InS.row h hM (i := i) (by omega)
    rwa [Hs _ _ b] at this
   ·exact InS.zero h hM (hI.mat.len hi) fun j hj => hI.low i j (by omega) hi hj
  ·rw [hl] at hi
   rw [Hs _ _ hi]; exact InS.row h hI.mat (by omega)
theorem Kd {R : LQ} {P : NQ} (hR : Rref F n R P) : Bc F R n = (R, P) := by
 obtain ⟨h1, h2, _⟩ := Bn h hR.mat
 obtain ⟨e1, e2⟩ := Rref.unique h h1 hR h2.2 h2.1
 exact Prod.ext e1 e2
def Bh (F : Fld) (R : LQ) (P : NQ) (n c : Nat) : Nat -> NQ
 | 0 => (List.replicate n 0).set c 1
 | i + 1 => (Bh F R P n c i).set (P.getD i 0) (F.neg (ent R i c))
def Bf (F : Fld) (R : LQ) (P : NQ) (n : Nat) : Nat -> LQ
 | 0 => []
 | c + 1 => if c ∈ P then Bf F R P n c else Bf F R P n c ++ [Bh F R P n c P.length]
def kern (F : Fld) (M : LQ) (n : Nat) : LQ := (Bc F (Bf F (Bc F M n).1 (Bc F M n).2 n n) n).1
omit h in
theorem Cs (R : LQ) (P : NQ) (c : Nat) : ∀ i, (Bh F R P n c i).length = n
 | 0 => by simp [Bh]
 | i + 1 => by rw [Bh, qai, Cs R P c i]
omit h in
theorem Od (l : NQ) (i j x : Nat) (hi : i < l.length) : (l.set i x).getD j 0 = if j = i then x else l.getD j 0 := by
 by_cases e : j = i
 ·subst e; simp [qa, hi]
 ·rw [if_neg e, qa, qa, qbf (Ne.symm e)]
omit h in
theorem Hb {P : NQ} {c : Nat} (f0 : ∀ i, i < P.length -> P.getD i 0 < n) (hc : c < n) {j : Nat} : ∀ m, m <= P.length -> (∀ i, i < m -> P.getD i 0 ≠ j) -> (Bh F R P n c m).getD j 0 = if j = c then 1 else 0
 | 0, _, _ => by
  rw [Bh, Od _ _ _ _ (by simpa using hc)]; split
  ·rfl
  ·by_cases hj : j < n
   ·simp [qa, hj]
   ·simp [qa, hj]
 | m + 1, hm, b0 => by
  rw [Bh, Od _ _ _ _ (by rw [Cs]; exact f0 m (by omega)), if_neg (Ne.symm (b0 m (by omega)))]; exact Hb f0 hc m (by omega) fun i hi => b0 i (by omega)
omit h in
theorem Ig {P : NQ} {c : Nat} (f0 : ∀ i, i < P.length -> P.getD i 0 < n) (hinj : ∀ i j, i < j -> j < P.length -> P.getD i 0 < P.getD j 0) {k : Nat} : ∀ m, m <= P.length -> k < m -> (Bh F R P n c m).getD (P.getD k 0) 0 = F.neg (ent R k c)
 | 0, _, hk => absurd hk (by omega)
 | m + 1, hm, hk => by
  rw [Bh, Od _ _ _ _ (by rw [Cs]; exact f0 m (by omega))]
  by_cases e : k = m
  ·rw [e, if_pos rfl]
  ·have := hinj k m (by omega) (by omega)
   rw [if_neg (by omega)]; exact Ig f0 hinj m (by omega) (by omega)
theorem Kk (hR : Mat F n R) {P : NQ} {c : Nat} : ∀ m, ∀ x ∈ Bh F R P n c m, x < F.q
 | 0, x, hx => by
  rcases Oq hx with h1 | h1
  ·rw [(qav.1 h1).2]; exact h.q0
  ·rw [h1]; exact h.q1
 | m + 1, x, hx => by
  rcases Oq hx with h1 | h1
  ·exact Kk hR m x h1
  ·rw [h1]; exact h.negL _ (hR.lt h _ _)
omit h in
theorem Dc {P : NQ} {r : NQ} : ∀ m, r ∈ Bf F R P n m ↔ ∃ c, c < m ∧ c ∉ P ∧ r = Bh F R P n c P.length
 | 0 => by simp [Bf]
 | m + 1 => by
  rw [Bf]
  by_cases e : m ∈ P
  ·rw [if_pos e, Dc m]
   exact ⟨fun ⟨c, h1, h2⟩ => ⟨c, by omega, h2⟩, fun ⟨c, h1, h2, h3⟩ => ⟨c, by
    rcases Nq c m with h4 | h4
    ·exact h4
    ·have : c = m := by omega
     subst this; exact absurd e h2, h2, h3⟩⟩
  ·rw [if_neg e, qar, Dc m]
   constructor
   ·rintro (⟨c, h1, h2⟩ | h1)
    ·exact ⟨c, by omega, h2⟩
    ·exact ⟨m, by omega, e, by simpa using h1⟩
   ·rintro ⟨c, h1, h2, h3⟩
    rcases Nq c m with h4 | h4
    ·exact .inl ⟨c, h4, h2, h3⟩
    ·have : c = m := by omega
     subst this; exact .inr (by simp [h3])
theorem Dk (hR : Mat F n R) {P : NQ} {m : Nat} : Mat F n (Bf F R P n m) := by
 intro r hr
 obtain ⟨c, _, _, rfl⟩ := (Dc m).1 hr
 exact ⟨Cs R P c _, Kk h hR _⟩
def dotv (F : Fld) (n : Nat) (u v : NQ) : Nat := fsum F (fun j => F.mul (u.getD j 0) (v.getD j 0)) n
theorem Mt (hR : Mat F n R) {u v : NQ} (hu : ∀ j, j < n -> u.getD j 0 < F.q) (hv : InS F n R v) (hz : ∀ i, i < R.length -> dotv F n u (R.getD i []) = 0) : dotv F n u v = 0 := by
 obtain ⟨l, a, ha, e⟩ := hv
 have hE := fun i j => hR.lt h i j
 unfold dotv
 rw [Bp (g := fun j => fsum F (fun i => F.mul (a i) (F.mul (u.getD j 0) (ent R i j))) R.length) n fun j hj => ?_]
 ·rw [Ri h n R.length fun j i hj hi => h.mulL _ _ (ha i) (h.mulL _ _ (hu j hj) (hE i j))]
  refine Hv h _ fun i hi => ?_
  rw [Fv h n (ha i) fun j hj => h.mulL _ _ (hu j hj) (hE i j)]; have := hz i hi; unfold dotv at this; show F.mul (a i) (fsum F (fun j => F.mul (u.getD j 0) (ent R i j)) n) = 0; unfold ent; rw [this, h.mul0 (ha i)]
 ·rw [e j hj, <- Fv h _ (hu j hj) fun i _ => h.mulL _ _ (ha i) (hE i j)]
  refine Bp _ fun i _ => ?_
  rw [<- h.mulA _ _ _ (hu j hj) (ha i) (hE i j), h.mulC _ _ (hu j hj) (ha i), h.mulA _ _ _ (ha i) (hu j hj) (hE i j)]
theorem Rref.of_null (hR : Rref F n R P) {v : NQ} (hl : v.length = n) (hv : ∀ j, j < n -> v.getD j 0 < F.q) (hz : ∀ c, c < n -> c ∉ P -> dotv F n v (Bh F R P n c P.length) = 0) : InS F n R v := by
 refine ⟨hl, fun i => if i < P.length then v.getD (P.getD i 0) 0 else 0, fun i => ?_, fun j hj => ?_⟩
 ·show (if i < P.length then v.getD (P.getD i 0) 0 else 0) < F.q
  split
  ·rename_i hi; exact hv _ (hR.lt i hi)
  ·exact h.q0
 ·have hE := fun i => hR.mat.lt h i j
  rw [Bp (g := fun i => F.mul (v.getD (P.getD i 0) 0) (ent R i j)) R.length fun i hi => by simp only [if_pos (show i < P.length by rw [<- hR.len]; exact hi)]]
  by_cases e0 : j ∈ P
  ·obtain ⟨k, hk, e⟩ := Iq.1 e0
   have e' : P.getD k 0 = j := by simp [qa, hk, e]
   rw [Ht h R.length (i := k) (by rw [hR.len]; exact hk)]
   ·have := hR.unit k k hk hk
    rw [e', if_pos rfl] at this; rw [this, e', h.mul1 _ (hv j hj)]
   ·have := hR.unit k k hk hk
    rw [e', if_pos rfl] at this; rw [this, e', h.mul1 _ (hv j hj)]; exact hv j hj
   ·intro i hi b0
    have d0 : i < P.length := by rw [<- hR.len]; exact hi
    have := hR.unit i k d0 hk; rw [e', if_neg b0] at this; rw [this, h.mul0 (hv _ (hR.lt i d0))]
  ·have h9 := hz j hj e0
   have k1 := fun c' (h1 : ∀ i, i < P.length -> P.getD i 0 ≠ c') => Hb (F := F) (R := R) hR.lt hj (j := c') P.length (qb _) h1
   have x0 := fun k (hk : k < P.length) => Ig (F := F) (R := R) (c := j) hR.lt hR.inc P.length (qb _) hk
   have key : ∀ m, m <= P.length -> ∀ N, (∀ i, i < m -> P.getD i 0 < N) -> (∀ i, m <= i -> i < P.length -> N <= P.getD i 0) -> N <= n ->
     F.add (fsum F (fun i => F.mul (v.getD (P.getD i 0) 0) (ent R i j)) m) (fsum F (fun k => F.mul (v.getD k 0) ((Bh F R P n j P.length).getD k 0)) N) = if j < N then v.getD j 0 else 0 := by
    intro m hm N; have nl : ∀ k, (Bh F R P n j P.length).getD k 0 < F.q := fun k => by
     by_cases hk : k < n
     ·exact Kk h hR.mat _ _ (Ap (by rw [Cs]; exact hk) _)
     ·rw [qa, Mq (by rw [Cs]; omega)]; exact h.q0
    induction N generalizing m with
    | zero =>
     intro h1 _ _; have : m = 0 := by
      rcases Xq m with h2 | h2
      ·exact h2
      ·have := h1 0 h2; omega
     subst this; simp only [fsum, Nat.not_lt_zero, if_false]; exact h.add0 _ h.q0
    | succ N ih =>
     intro h1 h2 hN; have s1 : fsum F (fun k => F.mul (v.getD k 0) ((Bh F R P n j P.length).getD k 0)) N < F.q := De h _ fun k hk => h.mulL _ _ (hv k (by omega)) (nl k)
     have s2 : ∀ m, m <= P.length -> fsum F (fun i => F.mul (v.getD (P.getD i 0) 0) (ent R i j)) m < F.q := fun m hm => De h _ fun i hi => h.mulL _ _ (hv _ (hR.lt i (by omega))) (hE i)
     by_cases hp : ∃ k, k < P.length ∧ P.getD k 0 = N
     ·obtain ⟨k, hk, ek⟩ := hp
      have r2 : k < m := by
       rcases Nq k m with h3 | h3
       ·exact h3
       ·have := h2 k h3 hk; omega
      have f2 : m = k + 1 := by
       rcases Nq (k + 1) m with h3 | h3
       ·have a1 := h1 (k + 1) h3
        have a2 := hR.inc k (k + 1) (by omega) (by omega); omega
       ·omega
      subst f2; have c0 := ih k (by omega) (fun i hi => by have := hR.inc i k hi hk; omega) (fun i h3 h4 => by
       rcases Nat.eq_or_lt_of_le h3 with h5 | h5
       ·subst h5; omega
       ·have := hR.inc k i h5 h4; omega) (by omega)
      have p2 : j ≠ N := fun e => e0 (by rw [e, <- ek]; exact Ap hk _)
      have en : (Bh F R P n j P.length).getD N 0 = F.neg (ent R k j) := by rw [<- ek]; exact x0 k hk
      have i0 := hv N (by omega); have hm := h.mulL _ _ i0 (hE k); have e5 : F.mul (v.getD N 0) (F.neg (ent R k j)) = F.neg (F.mul (v.getD N 0) (ent R k j)) := by
       rw [h.mulC _ _ i0 (h.negL _ (hE k)), h.mulneg (hE k) i0, h.mulC _ _ (hE k) i0]
      simp only [fsum]; rw [en, ek, e5, h.add4 (s2 k (by omega)) hm s1 (h.negL _ hm), h.addN _ hm, h.add0 _ (h.addL _ _ (s2 k (by omega)) s1), c0]
      by_cases h7 : j < N
      ·rw [if_pos h7, if_pos (by omega)]
      ·rw [if_neg h7, if_neg (by omega)]
     ·have g0 : ∀ i, i < P.length -> P.getD i 0 ≠ N := fun i hi e => hp ⟨i, hi, e⟩
      have c0 := ih m hm (fun i hi => by have := h1 i hi; have := g0 i (by omega); omega) (fun i h3 h4 => by have := h2 i h3 h4; omega) (by omega); have en := k1 N g0; have i0 := hv N (by omega); simp only [fsum]; rw [en]
      by_cases h7 : N = j
      ·subst h7
       rw [if_pos rfl, h.mul1 _ i0, <- h.addA _ _ _ (s2 m hm) s1 i0, c0, if_neg (by omega), h.zadd i0, if_pos (by omega)]
      ·rw [if_neg h7, h.mul0 i0, h.add0 _ s1, c0]
       by_cases h8 : j < N
       ·rw [if_pos h8, if_pos (by omega)]
       ·rw [if_neg h8, if_neg (by omega)]
   have hk := key P.length (qb _) n (fun i hi => hR.lt i hi) (fun i h3 h4 => by omega) (qb _); unfold dotv at h9; rw [h9, if_pos hj] at hk; rw [<- hk, hR.len]; exact h.add0 _ (De h _ fun i hi => h.mulL _ _ (hv _ (hR.lt i hi)) (hE i))
theorem Rref.null_orth (hR : Rref F n R P) {c : Nat} (hc : c < n) (j0 : c ∉ P) {k : Nat} (hk : k < P.length) : dotv F n (R.getD k []) (Bh F R P n c P.length) = 0 := by
 have k1 := fun c' (h1 : ∀ i, i < P.length -> P.getD i 0 ≠ c') => Hb (F := F) (R := R) hR.lt hc (j := c') P.length (qb _) h1
 have x0 := fun k (hk : k < P.length) => Ig (F := F) (R := R) (c := c) hR.lt hR.inc P.length (qb _) hk
 have hx := hR.mat.lt h k c
 have j2 : P.getD k 0 ≠ c := fun e => j0 (by rw [<- e]; exact Ap hk _)
 have hu := hR.unit k k hk hk
 rw [if_pos rfl] at hu
 have f1 : ∀ j, F.mul ((R.getD k []).getD j 0) ((Bh F R P n c P.length).getD j 0) = if j = c then ent R k c else if j = P.getD k 0 then F.neg (ent R k c) else 0 := fun j => by
  show F.mul (ent R k j) _ = _
  by_cases hj : ∃ i, i < P.length ∧ P.getD i 0 = j
  ·obtain ⟨i, hi, rfl⟩ := hj
   have d2 : P.getD i 0 ≠ c := fun e => j0 (by rw [<- e]; exact Ap hi _)
   rw [x0 i hi, hR.unit k i hk hi, if_neg d2]
   by_cases e : k = i
   ·subst e
    rw [if_pos rfl, if_pos rfl, h.omul (h.negL _ hx)]
   ·rw [if_neg e, h.zmul (h.negL _ (hR.mat.lt h i c)), if_neg]
    intro e2
    rcases Nq k i with h3 | h3
    ·have := hR.inc k i h3 hi; omega
    ·have := hR.inc i k (by omega) hk; omega
  ·have g0 : ∀ i, i < P.length -> P.getD i 0 ≠ j := fun i hi e => hj ⟨i, hi, e⟩
   rw [k1 j g0, if_neg (Ne.symm (g0 k hk))]
   by_cases e : j = c
   ·subst e; rw [if_pos rfl, if_pos rfl, h.mul1 _ hx]
   ·rw [if_neg e, if_neg e, h.mul0 (hR.mat.lt h k j)]
 unfold dotv
 rw [Bp (g := fun j => F.add (if j = c then ent R k c else 0) (if j = P.getD k 0 then F.neg (ent R k c) else 0)) n fun j _ => ?_]
 ·have z0 := h.q0
  rw [Ls h n (fun j _ => by split <;> assumption) (fun j _ => by split; exact h.negL _ hx; exact z0), Ht h n hc (by simpa using hx) fun j _ b0 => if_neg b0, if_pos rfl,
   Ht h n (hR.lt k hk) (by simpa using h.negL _ hx) fun j _ b0 => if_neg b0, if_pos rfl, h.addN _ hx]
 ·rw [f1]
  by_cases e : j = c
  ·subst e
   rw [if_pos rfl, if_pos rfl, if_neg (Ne.symm j2), h.add0 _ hx]
  ·rw [if_neg e, if_neg e]
   exact (h.zadd (by split; exact h.negL _ hx; exact h.q0)).symm
def Cv (F : Fld) (R : LQ) (P : NQ) (n : Nat) (v : NQ) : Nat -> NQ
 | 0 => List.replicate n 0
 | m + 1 => if m ∈ P then Cv F R P n v m else addRow F (Cv F R P n v m) (v.getD m 0) (Bh F R P n m P.length)
omit h in
theorem Ft {v : NQ} : ∀ m, (Cv F R P n v m).length = n
 | 0 => by simp [Cv]
 | m + 1 => by
  rw [Cv]; split
  ·exact Ft m
  ·exact Bv (Ft m) (Cs R P m _)
theorem Rref.null_comb (hR : Rref F n R P) {v : NQ} (hl : v.length = n) (hv : ∀ j, j < n -> v.getD j 0 < F.q) (hz : ∀ k, k < P.length -> dotv F n v (R.getD k []) = 0) : InS F n (Bf F R P n n) v := by
 have nm := Dk h hR.mat (P := P) (m := n)
 have hE := fun i j => hR.mat.lt h i j
 have o1 : ∀ m, m <= n -> InS F n (Bf F R P n n) (Cv F R P n v m) := by
  intro m
  induction m with
  | zero => intro _; exact InS.zero h nm (by simp [Cv]) fun j hj => by simp [Cv, qa, hj]
  | succ m ih =>
   intro hm; rw [Cv]; split
   ·exact ih (by omega)
   ·rename_i hmP
    obtain ⟨i, hi, e⟩ := Iq.1 ((Dc (F := F) (R := R) (P := P) (n := n) n).2 ⟨m, by omega, hmP, rfl⟩); have := InS.row h nm hi; rw [show (Bf F R P n n).getD i [] = Bh F R P n m P.length by simp [qa, hi, e]] at this; exact InS.addRow h nm (ih (by omega)) this (hv m (by omega))
 have f0 : ∀ m, m <= n -> ∀ j, j < n -> (Cv F R P n v m).getD j 0 < F.q := fun m hm j hj => (o1 m hm).lt h nm hj
 have k2 : ∀ k, k < P.length -> ∀ m, m <= n -> F.add ((Cv F R P n v m).getD (P.getD k 0) 0) (fsum F (fun c => F.mul (v.getD c 0) (ent R k c)) m) = if P.getD k 0 < m then v.getD (P.getD k 0) 0 else 0 := by
  intro k hk m
  induction m with
  | zero =>
   intro _; have : (Cv F R P n v 0).getD (P.getD k 0) 0 = 0 := by
    rw [Cv, qa, List.getElem?_replicate, if_pos (hR.lt k hk)]; rfl
   rw [this, if_neg (by omega)]; exact h.add0 _ h.q0
  | succ m ih =>
   intro hm; have c0 := ih (by omega); have a1 := f0 m (by omega) _ (hR.lt k hk); have a2 : fsum F (fun c => F.mul (v.getD c 0) (ent R k c)) m < F.q := De h _ fun c hc => h.mulL _ _ (hv c (by omega)) (hE k c)
   have a3 := hv m (by omega); rw [Cv, fsum]
   by_cases hmP : m ∈ P
   ·rw [if_pos hmP]
    obtain ⟨i, hi, e⟩ := Iq.1 hmP; have e' : P.getD i 0 = m := by simp [qa, hi, e]
    have hu := hR.unit k i hk hi; rw [e'] at hu
    by_cases hki : k = i
    ·subst hki
     rw [if_pos rfl] at hu; rw [e', if_neg (by omega)] at c0; rw [e'] at a1; rw [e', hu, h.mul1 _ a3, <- h.addA _ _ _ a1 a2 a3, c0, h.zadd a3, if_pos (by omega)]
    ·rw [if_neg hki] at hu
     have b0 : P.getD k 0 ≠ m := by
      rcases Nq k i with h3 | h3
      ·have := hR.inc k i h3 hi; omega
      ·have := hR.inc i k (by omega) hk; omega
     rw [hu, h.mul0 a3, h.add0 _ a2, c0]
     by_cases h8 : P.getD k 0 < m
     ·rw [if_pos h8, if_pos (by omega)]
     ·rw [if_neg h8, if_neg (by omega)]
   ·have b0 : P.getD k 0 ≠ m := fun e => hmP (by rw [<- e]; exact Ap hk _)
    have a4 := h.mulL _ _ a3 (hE k m); have e5 : F.mul (v.getD m 0) (F.neg (ent R k m)) = F.neg (F.mul (v.getD m 0) (ent R k m)) := by
     rw [h.mulC _ _ a3 (h.negL _ (hE k m)), h.mulneg (hE k m) a3, h.mulC _ _ (hE k m) a3]
    rw [if_neg hmP, Co (Ft m) (Cs R P m _) (hR.lt k hk), Ig hR.lt hR.inc P.length (qb _) hk, e5, h.add4 a1 (h.negL _ a4) a2 a4, h.nadd a4, h.add0 _ (h.addL _ _ a1 a2), c0]
    by_cases h8 : P.getD k 0 < m
    ·rw [if_pos h8, if_pos (by omega)]
    ·rw [if_neg h8, if_neg (by omega)]
 have i2 : ∀ j, j < n -> j ∉ P -> ∀ m, m <= n -> (Cv F R P n v m).getD j 0 = if j < m then v.getD j 0 else 0 := by
  intro j hj e0 m; have g0 : ∀ i, i < P.length -> P.getD i 0 ≠ j := fun i hi e => e0 (by rw [<- e]; exact Ap hi _)
  induction m with
  | zero => intro _; simp [Cv, qa, hj]
  | succ m ih =>
   intro hm; have c0 := ih (by omega); have a3 := hv m (by omega); have a1 := f0 m (by omega) j hj; rw [Cv]
   by_cases hmP : m ∈ P
   ·have b0 : j ≠ m := fun e => e0 (by rw [e]; exact hmP)
    rw [if_pos hmP, c0]
    by_cases h8 : j < m
    ·rw [if_pos h8, if_pos (by omega)]
    ·rw [if_neg h8, if_neg (by omega)]
   ·rw [if_neg hmP, Co (Ft m) (Cs R P m _) hj, Hb hR.lt (show m < n by omega) P.length (qb _) g0]
    by_cases e : j = m
    ·subst e
     rw [if_pos rfl, h.mul1 _ a3, c0, if_neg (by omega), h.zadd a3, if_pos (by omega)]
    ·rw [if_neg e, h.mul0 a3, h.add0 _ a1, c0]
     by_cases h8 : j < m
     ·rw [if_pos h8, if_pos (by omega)]
     ·rw [if_neg h8, if_neg (by omega)]
 have e : Cv F R P n v n = v := Ns (Ft n) hl fun j hj => by
  by_cases e0 : j ∈ P
  ·obtain ⟨k, hk, e⟩ := Iq.1 e0
   have e' : P.getD k 0 = j := by simp [qa, hk, e]
   have := k2 k hk n (qb _); rw [show fsum F (fun c => F.mul (v.getD c 0) (ent R k c)) n = 0 from hz k hk, h.add0 _ (f0 n (qb _) _ (hR.lt k hk)), if_pos (hR.lt k hk), e'] at this; exact this
  ·rw [i2 j hj e0 n (qb _), if_pos hj]
 rw [<- e]
 exact o1 n (qb _)
theorem Ji {M : LQ} (hM : Mat F n M) : ∃ Q, Rref F n (kern F M n) Q :=
 ⟨_, (Bn h (Dk h (Bn h hM).1.mat)).1⟩
theorem eP {u v : NQ} (hu : ∀ j, j < n -> u.getD j 0 < F.q) (hv : ∀ j, j < n -> v.getD j 0 < F.q) : dotv F n u v = dotv F n v u :=
 Bp n fun j hj => h.mulC _ _ (hu j hj) (hv j hj)
omit h in
theorem Mat.rowLt' {R : LQ} (hR : Mat F n R) {i j : Nat} (hi : i < R.length) (hj : j < n) : (R.getD i []).getD j 0 < F.q := hR.rowLt hi _ (Ap (by rw [hR.len hi]; exact hj) _)
theorem fX {R : LQ} {P : NQ} (hR : Rref F n R P) : kern F (kern F R n) n = R := by
 obtain ⟨hK, eK, _⟩ := Bn h (Dk h hR.mat (P := P) (m := n))
 have e1 : kern F R n = (Bc F (Bf F R P n n) n).1 := by unfold kern; rw [Kd h hR]
 rw [e1]
 generalize (Bc F (Bf F R P n n) n).1 = K at *
 generalize (Bc F (Bf F R P n n) n).2 = Q at *
 have e2 : kern F K n = (Bc F (Bf F K Q n n) n).1 := by unfold kern; rw [Kd h hK]
 rw [e2]
 obtain ⟨hL, eL, _⟩ := Bn h (Dk h hK.mat (P := Q) (m := n))
 generalize hLL : (Bc F (Bf F K Q n n) n).1 = L at *
 generalize (Bc F (Bf F K Q n n) n).2 = P' at *
 have nm := Dk h hR.mat (P := P) (m := n)
 have o2 := Dk h hK.mat (P := Q) (m := n)
 have n2 : ∀ c, c < n -> c ∉ P -> ∃ i, i < (Bf F R P n n).length ∧ (Bf F R P n n).getD i [] = Bh F R P n c P.length := fun c hc j0 => by
  obtain ⟨i, hi, e⟩ := Iq.1 ((Dc (F := F) (R := R) (P := P) (n := n) n).2 ⟨c, hc, j0, rfl⟩); exact ⟨i, hi, by simp [qa, hi, e]⟩
 have t2 : ∀ c, c < n -> c ∉ Q -> ∃ i, i < (Bf F K Q n n).length ∧ (Bf F K Q n n).getD i [] = Bh F K Q n c Q.length := fun c hc j0 => by
  obtain ⟨i, hi, e⟩ := Iq.1 ((Dc (F := F) (R := K) (P := Q) (n := n) n).2 ⟨c, hc, j0, rfl⟩); exact ⟨i, hi, by simp [qa, hi, e]⟩
 refine (Rref.unique h hL hR (fun i hi => ?_) (fun i hi => ?_)).1
 ·
  refine hR.of_null h (hL.mat.len hi) (fun j hj => hL.mat.rowLt' hi hj) fun c hc j0 => ?_
  obtain ⟨l, hl, el⟩ := n2 c hc j0; have m2 : InS F n K (Bh F R P n c P.length) := by rw [<- el]; exact eK.1 l hl
  refine Mt h hK.mat (fun j hj => hL.mat.rowLt' hi hj) m2 fun k hk => ?_
  have j1 : k < Q.length := by rw [<- hK.len]; exact hk
  rw [eP h (fun j hj => hL.mat.rowLt' hi hj) (fun j hj => hK.mat.rowLt' hk hj)]; refine Mt h o2 (fun j hj => hK.mat.rowLt' hk hj) (eL.2 i hi) fun r hr => ?_
  obtain ⟨c', c1, d1, e'⟩ := (Dc n).1 (Ap hr []); rw [e']; exact hK.null_orth h c1 d1 j1
 ·
  refine InS.trans h hL.mat eL.1 ?_; have d0 : i < P.length := by rw [<- hR.len]; exact hi
  refine hK.null_comb h (hR.mat.len hi) (fun j hj => hR.mat.rowLt' hi hj) fun k hk => ?_
  have j1 : k < K.length := by rw [hK.len]; exact hk
  refine Mt h nm (fun j hj => hR.mat.rowLt' hi hj) (eK.2 k j1) fun r hr => ?_
  obtain ⟨c', c1, d1, e'⟩ := (Dc n).1 (Ap hr []); rw [e']; exact hR.null_orth h c1 d1 d0
end
end Fq
end
end Go.Proofs.YtoalkldfhkabnaaGreatDoor
