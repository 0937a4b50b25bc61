/- Part of WholeTraces. -/
import Derived.Test.YtoalkldfhkabnaaGreatDoorW00
import Derived.Test.YtoalkldfhkabnaaGreatDoorW11
set_option linter.all false
set_option maxRecDepth 10000
set_option maxHeartbeats 16000000
namespace Go.Proofs.YtoalkldfhkabnaaGreatDoor
section
namespace Fq
def qt (F : FD) (r : Nat) : NQ -> NQ
 | [] => []
 | c :: t => ev F r (c :: t) :: qt F r t
theorem kR (F : FD) (r : Nat) : ∀ l, (qt F r l).length = l.length
 | [] => rfl
 | _ :: t => by rw [qt, qan, kR F r t, qan]
theorem dM {F : FD} (h : F.Ok) {r : Nat} : ∀ l : NQ, (∀ y ∈ l, y < F.q) -> (∀ y ∈ qt F r l, y = 0) -> ev F r l = 0 ∧ ∀ y ∈ l, y = 0
 | [], _, _ => ⟨rfl, fun y hy => by cases hy⟩
 | c :: t, hl, hz => by
  have o := h.fldOk; have e1 : ev F r (c :: t) = 0 := hz _ (by simp [qt]); obtain ⟨e2, e3⟩ := dM h t (fun y hy => hl y (by simp [hy])) fun y hy => hz y (qcv _ hy)
  refine ⟨e1, fun y hy => ?_⟩
  rcases qx.1 hy with rfl | hy
  ·rw [ev, e2, h.mul_zero] at e1
   have := o.add0 y (hl y (by simp)); exact this.symm.trans e1
  ·exact e3 y hy
theorem bQ {F : FD} (h : F.Ok) {r D : Nat} (hr : r < F.q) (hD : D < F.q) : ∀ (t : NQ) (c : Nat), c < F.q -> (∀ y ∈ t, y < F.q) ->
  ev F (F.add r D) (c :: t) = F.add (ev F r (c :: t)) (F.mul D (ev F (F.add r D) (qt F r t)))
 | [], c, hc, _ => by
  have o := h.fldOk; show F.add c (F.mul (F.add r D) 0) = F.add (F.add c (F.mul r 0)) (F.mul D 0); rw [h.mul_zero, h.mul_zero, h.mul_zero]; have e : F.add c 0 = c := o.add0 c hc; rw [e, e]
 | d :: u, c, hc, ht => by
  have o := h.fldOk; have ih := bQ h hr hD u d (ht d (by simp)) fun y hy => ht y (by simp [hy])
  show F.add c (F.mul (F.add r D) (ev F (F.add r D) (d :: u))) = F.add (F.add c (F.mul r (ev F r (d :: u)))) (F.mul D (F.add (ev F r (d :: u)) (F.mul (F.add r D) (ev F (F.add r D) (qt F r u))))); rw [ih]; generalize hR : ev F r (d :: u) = R at *; generalize hE : ev F (F.add r D) (qt F r u) = E at *; generalize hx : F.add r D = x at *; have lR : R < F.q := by rw [<- hR]; exact h.ev_lt _ _
  have lE : E < F.q := by rw [<- hE]; exact h.ev_lt _ _
  have lx : x < F.q := by rw [<- hx]; exact h.add_lt _ _
  have aA : ∀ x y z, x < F.q -> y < F.q -> z < F.q -> F.add (F.add x y) z = F.add x (F.add y z) := o.addA; have mD : ∀ x y z, F.mul x (F.add y z) = F.add (F.mul x y) (F.mul x z) := fun x y z => Fq.mul_add h.p1 x y z
  have e1 : F.mul x R = F.add (F.mul r R) (F.mul D R) := by rw [<- hx]; exact o.mulDr hr hD lR
  have e2 : F.mul x (F.mul D E) = F.mul D (F.mul x E) := by
   rw [<- h.mul_assoc lx hD lE, h.mul_comm lx hD, h.mul_assoc hD lx lE]
  have ml := h.mul_lt; rw [mD, mD, e1, e2, aA _ _ _ (ml _ _) (ml _ _) (ml _ _), <- aA _ _ _ hc (ml _ _) (h.add_lt _ _)]
theorem qK {F : FD} (h : F.Ok) (r : Nat) : ∀ l : NQ, ∀ y ∈ qt F r l, y < F.q
 | c :: t, y, hy => by
  rcases qx.1 hy with rfl | hy
  ·exact h.ev_lt _ _
  ·exact qK h r t y hy
theorem Oy {F : FD} (h : F.Ok) : ∀ (n : Nat) (l : NQ), l.length = n -> (∀ y ∈ l, y < F.q) -> ∀ rs : NQ, rs.Nodup -> (∀ r ∈ rs, r < F.q ∧ ev F r l = 0) -> n <= rs.length -> ∀ y ∈ l, y = 0
 | 0, l, hl, _, _, _, _, _, y, hy => by
  have : l = [] := List.length_eq_zero_iff.1 hl; rw [this] at hy; cases hy
 | n + 1, l, hl, hlt, rs, hd, hr, hn, y, hy => by
  have o := h.fldOk
  cases l with
  | nil => cases hy
  | cons c t =>
  cases rs with
  | nil => simp at hn
  | cons r0 rs =>
  have c0 := qdf.1 hd; obtain ⟨a0, z0⟩ := hr r0 (by simp); have hc := hlt c (by simp); have ht : ∀ y ∈ t, y < F.q := fun y hy => hlt y (by simp [hy])
  have hq := Oy h n (qt F r0 t) (by rw [kR]; simp at hl; exact hl) (qK h r0 t) rs c0.2 (fun r hm => by
   obtain ⟨lr, zr⟩ := hr r (by simp [hm]); refine ⟨lr, ?_⟩; have lD := h.add_lt r (F.neg r0); have e : F.add r0 (F.add r (F.neg r0)) = r := by
    have e1 : F.add r (F.neg r0) = F.add (F.neg r0) r := Cj _ _ _; have e2 : F.add (F.add r0 (F.neg r0)) r = F.add r0 (F.add (F.neg r0) r) := o.addA _ _ _ a0 (h.neg_lt _) lr; have e3 : F.add r0 (F.neg r0) = 0 := o.addN _ a0; have e4 : F.add 0 r = r := o.zadd lr; rw [e1, <- e2, e3, e4]
   have hp := bQ h a0 lD t c hc ht; rw [e, zr, z0] at hp; have e5 : F.add 0 (F.mul (F.add r (F.neg r0)) (ev F r (qt F r0 t))) = F.mul (F.add r (F.neg r0)) (ev F r (qt F r0 t)) := o.zadd (h.mul_lt _ _); rw [e5] at hp; refine h.zero_or lD (h.ev_lt _ _) (fun e0 => ?_) hp.symm; rw [e0] at e; have e6 : F.add r0 0 = r0 := o.add0 _ a0; exact c0.1 (by rw [<- e6, e]; exact hm)) (by simp at hn; omega)
  obtain ⟨e2, e3⟩ := dM h t ht hq
  rcases qx.1 hy with rfl | hy
  ·rw [ev, e2, h.mul_zero] at z0
   have := o.add0 y hc; exact this.symm.trans z0
  ·exact e3 y hy
def hq (S : FD) : Nat -> NQ
 | 0 => [1]
 | k + 1 => S.pw S.p (S.m + 1 + k) / S.p ^ S.m :: hq S k
theorem kA (S : FD) : ∀ k, (hq S k).length = k + 1
 | 0 => rfl
 | k + 1 => by rw [hq, qan, kA S k]
theorem mZ (S : FD) : ∀ k, 1 ∈ hq S k
 | 0 => by simp [hq]
 | k + 1 => by rw [hq]; exact qcv _ (mZ S k)
section
variable {F S : FD} (h : F.Ok) (hS : S.Ok) (hp : S.p = F.p) (hm : S.m ≠ 0) {r : Nat} (hr : r < F.q)
include hS hm in
theorem pw_X (k : Nat) : S.pw S.p (k + 1) = mX S.p S.m S.v (S.pw S.p k) := by
 have h2 := hS.p2
 have h1 : 1 < S.p ^ S.m := qby hm hS.p1
 show S.mul (S.pw S.p k) S.p = _
 have e := aK (v := S.v) hS.p1 (S.pw S.p k) h1
 rw [qbw] at e
 unfold FD.mul
 rw [e, mul_one hS.p1 (hS.pw_lt _ _)]
include h hp hr in
theorem Qk : ∀ n k, k < n -> ev F r (digs S.p n (S.p ^ k)) = F.pw r k
 | n + 1, 0, _ => by
  have h1 := hp ▸ h.p1; have hq := h.q2; rw [Nat.pow_zero, digs, Bq h1, qag h1, Th, ev, h.ev_zeros, h.mul_zero]; exact h.fldOk.add0 1 (by show 1 < F.q; omega)
 | n + 1, k + 1, hk => by
  have h0 := hp ▸ h.p0; rw [qr, qw, digs, qat, qab _ h0, ev, Qk n k (by omega)]; have e : F.add 0 (F.mul r (F.pw r k)) = F.mul r (F.pw r k) := h.fldOk.zadd (h.mul_lt _ _); rw [e, h.mul_comm hr (h.pw_lt _ _)]; rfl
include hS hm in
theorem Sw : ∀ k, k <= S.m -> S.pw S.p k = S.p ^ k
 | 0, _ => rfl
 | k + 1, hk => by
  rw [pw_X hS hm k, Sw k (by omega), Hk hS.p0 (qax hS.p1 (by omega)), qr, qw]
include h hS hp hm hr in
theorem qP : ∀ k, F.pw r (S.m + 1 + k) = F.add (phi F S r (S.pw S.p (S.m + 1 + k))) (F.mul (ev F r (digs S.p (S.m + 1) S.v ++ [1])) (ev F r (hq S k)))
 | 0 => by
  have o := h.fldOk; have hq := h.q2; have i0 := Qk h hp hr (S.m + 1) S.m (by omega); have hl : S.p ^ S.m < F.p ^ (S.m + 1) := by rw [<- hp]; exact qax hS.p1 (by omega)
  have e1 := h.ev_mX (v := S.v) hr hl; rw [<- hp] at e1; rw [i0] at e1; rw [Nat.div_self (qbd hS.p0)] at e1; rw [qcd, pw_X hS hm, Sw hS hm _ (qb _), phi, e1]; generalize hf : ev F r (digs S.p (S.m + 1) S.v ++ [1]) = f; have lf : f < F.q := by rw [<- hf]; exact h.ev_lt _ _
  have e2 : ev F r (Fq.hq S 0) = 1 := by
   show F.add 1 (F.mul r 0) = 1; rw [h.mul_zero]; exact o.add0 1 (by show 1 < F.q; omega)
  have e3 : F.add (smul S.p (F.m + 1) (S.p - 1) f) f = 0 := by
   have a := h.smul_p (k := 1) (by have := h.p1; omega) f; rw [Em h.p0 lf, <- hp] at a; rw [<- a]; exact Cj _ _ _
  have sl : smul S.p (F.m + 1) (S.p - 1) f < F.q := by unfold FD.q; rw [hp]; exact Dl h.p0 _ _ _
  have e4 : F.add (F.add (F.mul r (F.pw r S.m)) (smul S.p (F.m + 1) (S.p - 1) f)) f = F.add (F.mul r (F.pw r S.m)) (F.add (smul S.p (F.m + 1) (S.p - 1) f) f) := o.addA _ _ _ (h.mul_lt _ _) sl lf; have e5 : F.add (F.mul r (F.pw r S.m)) 0 = F.mul r (F.pw r S.m) := o.add0 _ (h.mul_lt _ _); rw [e2, h.mul_one lf, e4, e3, e5, h.mul_comm hr (h.pw_lt _ _)]; rfl
 | k + 1 => by
  have o := h.fldOk; have ih := qP k; have la : S.pw S.p (S.m + 1 + k) < F.p ^ (S.m + 1) := by rw [<- hp]; exact hS.pw_lt _ _
  have e1 := h.ev_mX (v := S.v) hr la; have e0 := pw_X hS hm (S.m + 1 + k); rw [<- qay, e0]; show F.mul (F.pw r (S.m + 1 + k)) r = _; rw [ih, Fq.hq, ev]; rw [<- hp] at e1; have d0 : phi F S r (mX S.p S.m S.v (S.pw S.p (S.m + 1 + k))) = _ := e1; rw [d0]; have ht : S.pw S.p (S.m + 1 + k) / S.p ^ S.m < F.p := by rw [<- hp, qaq (Eb hS.p0 S.m), qw, <- qr]; exact hS.pw_lt _ _
  have g0 : ev F r (digs S.p (S.m + 1) (S.pw S.p (S.m + 1 + k))) = phi F S r (S.pw S.p (S.m + 1 + k)) := rfl; rw [g0]; generalize hf : ev F r (digs S.p (S.m + 1) S.v ++ [1]) = f; generalize ha : phi F S r (S.pw S.p (S.m + 1 + k)) = A; generalize hE : ev F r (Fq.hq S k) = E; generalize hT : S.pw S.p (S.m + 1 + k) / S.p ^ S.m = T at *; have lf : f < F.q := by rw [<- hf]; exact h.ev_lt _ _
  have lA : A < F.q := by rw [<- ha]; exact h.ev_lt _ _
  have lE : E < F.q := by rw [<- hE]; exact h.ev_lt _ _
  have mD : ∀ x y z, F.mul x (F.add y z) = F.add (F.mul x y) (F.mul x z) := fun x y z => Fq.mul_add h.p1 x y z
  have aA : ∀ x y z, x < F.q -> y < F.q -> z < F.q -> F.add (F.add x y) z = F.add x (F.add y z) := o.addA; have sl : ∀ k, smul S.p (F.m + 1) k f < F.q := fun k => by unfold FD.q; rw [hp]; exact Dl h.p0 _ _ _
  have ml := h.mul_lt; have e2 : F.mul f T = smul S.p (F.m + 1) T f := by rw [h.mul_small lf ht, hp]
  have e3 : F.add (smul S.p (F.m + 1) (S.p - T) f) (smul S.p (F.m + 1) T f) = 0 := by
   have a := h.smul_p (k := T) (by omega) f; rw [<- hp] at a; rw [<- a]; exact Cj _ _ _
  have e4 : F.mul f (F.mul r E) = F.mul r (F.mul f E) := by rw [<- h.mul_assoc lf hr lE, h.mul_comm lf hr, h.mul_assoc hr lf lE]
  have e5 : F.add 0 (F.mul r (F.mul f E)) = F.mul r (F.mul f E) := o.zadd (ml _ _); rw [mD, e2, e4, aA _ _ _ (ml _ _) (sl _) (h.add_lt _ _), <- aA _ _ _ (sl _) (sl _) (ml _ _), e3, e5, <- mD, h.mul_comm hr (h.add_lt _ _)]
end
theorem Ou {F S : FD} (h : F.Ok) (hS : S.Ok) (hp : S.p = F.p) (hd : (F.m + 1) % (S.m + 1) = 0) : ∃ r, Root F S r := by
 have m0 := h.q2
 have hQ := hS.q2
 by_cases hm : S.m = 0
 ·refine ⟨0, by omega, hp, ?_⟩
  rw [hm, hS.v0 hm]; simp only [digs, qba, qbp, ev, qcc]; rw [h.zero_mul]; exact h.fldOk.add0 0 h.fldOk.q0
 ·have b0 := cH h hp hd
  by_cases hex : ∃ r, r ∈ fixL F S.q ∧ ev F r (digs S.p (S.m + 1) S.v ++ [1]) = 0
  ·obtain ⟨r, hr, e⟩ := hex
   exact ⟨r, (Ph h hQ b0 hr).1, hp, e⟩
  ·exfalso
   have j0 : S.m + 1 + 1 <= S.q := by
    have h1 : S.m + 1 < S.p ^ (S.m + 1) := Nat.lt_pow_self hS.p1; unfold FD.q; omega
   have hX : S.pw S.p 1 = S.p := by
    have := Sw hS hm 1 (by omega); rw [qbk] at this; exact this
   have f0 : S.p < S.q := by
    have h1 : S.p ^ 1 < S.p ^ (S.m + 1) := qax hS.p1 (by omega); rw [qbk] at h1; exact h1
   obtain ⟨k, hk⟩ : ∃ k, S.q = S.m + 1 + k := ⟨S.q - (S.m + 1), by omega⟩
   have key : ∀ r ∈ fixL F S.q, r < F.q ∧ ev F r (hq S k) = 0 := fun r hr => by
    obtain ⟨lr, e⟩ := Ph h hQ b0 hr; refine ⟨lr, ?_⟩; have e1 := qP h hS hp hm lr k; rw [<- hk, e, hS.pw_q f0] at e1; have e2 : phi F S r S.p = r := by
     have a := Qk h hp lr (S.m + 1) 1 (by omega); rw [qbk, h.pw_1 lr] at a; exact a
    rw [e2] at e1; have o := h.fldOk; have e3 : F.add r 0 = r := o.add0 r lr; have e4 := o.cancel lr (show (0 : Nat) < F.q by omega) (h.mul_lt _ _) (e3.trans e1); refine h.zero_or (h.ev_lt _ _) (h.ev_lt _ _) (fun e0 => hex ⟨r, hr, e0⟩) e4.symm
   have ls : ∀ y ∈ hq S k, y < F.q := by
    have l0 := h.p_le_q; have : ∀ k, ∀ y ∈ hq S k, y < F.q := by
     intro k
     induction k with
     | zero => intro y hy; simp [hq] at hy; omega
     | succ k ih =>
      intro y hy
      rcases qx.1 hy with rfl | hy
      ·have ht : S.pw S.p (S.m + 1 + k) / S.p ^ S.m < S.p := by rw [qaq (Eb hS.p0 S.m), qw, <- qr]; exact hS.pw_lt _ _
       omega
      ·exact ih y hy
    exact this k
   have := Oy h (k + 1) (hq S k) (kA S k) ls (fixL F S.q) (Zj h hQ b0) key (by rw [Vk F hQ]; omega) 1 (mZ S k); omega
end Fq
end
section
namespace Fq
def ch : Nat -> Nat -> Nat
 | _, 0 => 1
 | 0, _ + 1 => 0
 | n + 1, k + 1 => ch n k + ch n (k + 1)
theorem ch_0 (n : Nat) : ch n 0 = 1 := by cases n <;> rfl
theorem Ud : ∀ n k, (k + 1) * ch (n + 1) (k + 1) = (n + 1) * ch n k
 | 0, 0 => by decide
 | 0, k + 1 => by simp [ch]
 | n + 1, 0 => by
  have ih := Ud n 0; have e1 : ch (n + 1 + 1) (0 + 1) = ch (n + 1) 0 + ch (n + 1) (0 + 1) := rfl; rw [e1]; rw [ch_0] at *; omega
 | n + 1, k + 1 => by
  have h1 := Ud n k; have h2 := Ud n (k + 1); have e1 : ch (n + 1 + 1) (k + 1 + 1) = ch (n + 1) (k + 1) + ch (n + 1) (k + 1 + 1) := rfl; have e2 : ch (n + 1) (k + 1) = ch n k + ch n (k + 1) := rfl; rw [e1, qcy, h2]; have e3 : (k + 1 + 1) * ch (n + 1) (k + 1) = (k + 1) * ch (n + 1) (k + 1) + ch (n + 1) (k + 1) := by rw [qcl (k + 1) 1, qbv]
  have e4 : (n + 1 + 1) * ch (n + 1) (k + 1) = (n + 1) * ch (n + 1) (k + 1) + ch (n + 1) (k + 1) := by rw [qcl (n + 1) 1, qbv]
  rw [e3, h1, e4, e2, qcy (n + 1)]; omega
theorem dF (n : Nat) : ∀ k, n < k -> ch n k = 0 := by
 induction n with
 | zero => intro k hk; cases k with | zero => omega | succ k => rfl
 | succ n ih => intro k hk; cases k with | zero => omega | succ k => rw [ch, ih k (by omega), ih (k + 1) (by omega)]
theorem oH (n : Nat) : ch n n = 1 := by
 induction n with
 | zero => rfl
 | succ n ih => rw [ch, ih, dF n (n + 1) (by omega)]
theorem lL {p : Nat} (h2 : 2 <= p) (hp : ∀ d, 2 <= d -> d < p -> p % d ≠ 0) {k : Nat} (h0 : 0 < k) (hk : k < p) : ch p k % p = 0 := by
 have hg : Nat.gcd p k = 1 := by
  have g1 := Nat.gcd_dvd_left p k; have g2 := Nat.gcd_dvd_right p k; have g3 : Nat.gcd p k <= k := qaz h0 g2; have g4 : Nat.gcd p k ≠ 0 := fun e => by rw [e] at g2; have := Nat.eq_zero_of_zero_dvd g2; omega
  by_cases g5 : 2 <= Nat.gcd p k
  ·exact absurd (Nat.mod_eq_zero_of_dvd g1) (hp _ g5 (by omega))
  ·omega
 obtain ⟨n, rfl⟩ : ∃ n, p = n + 1 := ⟨p - 1, by omega⟩
 obtain ⟨j, rfl⟩ : ∃ j, k = j + 1 := ⟨k - 1, by omega⟩
 have e := Ud n j
 have hd : n + 1 ∣ (j + 1) * ch (n + 1) (j + 1) := ⟨_, e⟩
 exact Nat.mod_eq_zero_of_dvd (Nat.Coprime.dvd_of_dvd_mul_left hg hd)
theorem Jp {F : Fld} (h : F.Ok) (f : Nat -> Nat) : ∀ k, (∀ i, i < k + 1 -> f i < F.q) -> fsum F f (k + 1) = F.add (f 0) (fsum F (fun i => f (i + 1)) k)
 | 0, hf => by
  show F.add 0 (f 0) = F.add (f 0) 0; exact h.addC _ _ h.q0 (hf 0 (by omega))
 | k + 1, hf => by
  have ih := Jp h f k fun i hi => hf i (by omega)
  rw [fsum, ih, fsum]; exact h.addA _ _ _ (hf 0 (by omega)) (De h k fun i hi => hf (i + 1) (by omega)) (hf (k + 1) (by omega))
section
variable {F : FD} (h : F.Ok) {a b : Nat} (ha : a < F.q) (hb : b < F.q)
include h ha hb
theorem qO : ∀ n, F.pw (F.add a b) n = fsum F.fld (fun k => smul F.p (F.m + 1) (ch n k) (F.mul (F.pw a k) (F.pw b (n - k)))) (n + 1)
 | 0 => by
  have o := h.fldOk; have h1 : (1 : Nat) < F.q := by have := h.q2; omega
  show 1 = F.add 0 (smul F.p (F.m + 1) 1 (F.mul 1 1)); rw [h.mul_one h1, Em h.p0 h1]; exact (o.zadd (show 1 < F.fld.q from h1)).symm
 | n + 1 => by
  have o := h.fldOk; have ih := qO n; have ml := h.mul_lt; have sl : ∀ k x, smul F.p (F.m + 1) k x < F.q := fun k x => Dl h.p0 _ _ _
  show F.mul (F.pw (F.add a b) n) (F.add a b) = _; have lS := h.pw_lt (F.add a b) n; have mD : ∀ x y z, F.mul x (F.add y z) = F.add (F.mul x y) (F.mul x z) := fun x y z => Fq.mul_add h.p1 x y z
  rw [mD, h.mul_comm lS ha, h.mul_comm lS hb, ih]; have eA := Fv o (n + 1) (c := a) ha (f := fun k => smul F.p (F.m + 1) (ch n k) (F.mul (F.pw a k) (F.pw b (n - k)))) fun i _ => sl _ _
  have eB := Fv o (n + 1) (c := b) hb (f := fun k => smul F.p (F.m + 1) (ch n k) (F.mul (F.pw a k) (F.pw b (n - k)))) fun i _ => sl _ _
  have c0 : fsum F.fld (fun i => F.mul a (smul F.p (F.m + 1) (ch n i) (F.mul (F.pw a i) (F.pw b (n - i))))) (n + 1) = F.mul a (fsum F.fld (fun k => smul F.p (F.m + 1) (ch n k) (F.mul (F.pw a k) (F.pw b (n - k)))) (n + 1)) := eA; have d0 : fsum F.fld (fun i => F.mul b (smul F.p (F.m + 1) (ch n i) (F.mul (F.pw a i) (F.pw b (n - i))))) (n + 1) = F.mul b (fsum F.fld (fun k => smul F.p (F.m + 1) (ch n k) (F.mul (F.pw a k) (F.pw b (n - k)))) (n + 1)) := eB; rw [<- c0, <- d0]; have cA : fsum F.fld (fun i => F.mul a (smul F.p (F.m + 1) (ch n i) (F.mul (F.pw a i) (F.pw b (n - i))))) (n + 1) = fsum F.fld (fun k => smul F.p (F.m + 1) (ch n k) (F.mul (F.pw a (k + 1)) (F.pw b (n - k)))) (n + 1) :=
   Bp _ fun i _ => by
    rw [h.smul_mul _ (ml _ _), <- h.mul_assoc ha (h.pw_lt _ _) (h.pw_lt _ _), h.mul_comm ha (h.pw_lt _ _)]; rfl
  have cB : fsum F.fld (fun i => F.mul b (smul F.p (F.m + 1) (ch n i) (F.mul (F.pw a i) (F.pw b (n - i))))) (n + 1) = fsum F.fld (fun k => smul F.p (F.m + 1) (ch n k) (F.mul (F.pw a k) (F.pw b (n + 1 - k)))) (n + 1) :=
   Bp _ fun i hi => by
    rw [h.smul_mul _ (ml _ _), show n + 1 - i = n - i + 1 by omega]; rw [<- h.mul_assoc hb (h.pw_lt _ _) (h.pw_lt _ _), h.mul_comm hb (h.pw_lt _ _), h.mul_assoc (h.pw_lt _ _) hb (h.pw_lt _ _), h.mul_comm hb (h.pw_lt _ _)]; rfl
  rw [cA, cB]; have hd := Jp o (fun k => smul F.p (F.m + 1) (ch (n + 1) k) (F.mul (F.pw a k) (F.pw b (n + 1 - k)))) (n + 1) fun i _ => sl _ _
  rw [hd]; have cC : fsum F.fld (fun i => smul F.p (F.m + 1) (ch (n + 1) (i + 1)) (F.mul (F.pw a (i + 1)) (F.pw b (n + 1 - (i + 1))))) (n + 1)
    = fsum F.fld (fun i => F.add (smul F.p (F.m + 1) (ch n i) (F.mul (F.pw a (i + 1)) (F.pw b (n - i)))) (smul F.p (F.m + 1) (ch n (i + 1)) (F.mul (F.pw a (i + 1)) (F.pw b (n + 1 - (i + 1)))))) (n + 1) :=
   Bp _ fun i _ => by
    rw [ch, El h.p0, show n + 1 - (i + 1) = n - i by omega]; rfl
  rw [cC]; have cD := Ls o (n + 1) (f := fun i => smul F.p (F.m + 1) (ch n i) (F.mul (F.pw a (i + 1)) (F.pw b (n - i)))) (g := fun i => smul F.p (F.m + 1) (ch n (i + 1)) (F.mul (F.pw a (i + 1)) (F.pw b (n + 1 - (i + 1))))) (fun i _ => sl _ _) (fun i _ => sl _ _); have b0 : fsum F.fld (fun i => F.add (smul F.p (F.m + 1) (ch n i) (F.mul (F.pw a (i + 1)) (F.pw b (n - i)))) (smul F.p (F.m + 1) (ch n (i + 1)) (F.mul (F.pw a (i + 1)) (F.pw b (n + 1 - (i + 1)))))) (n + 1)
    = F.add (fsum F.fld (fun i => smul F.p (F.m + 1) (ch n i) (F.mul (F.pw a (i + 1)) (F.pw b (n - i)))) (n + 1)) (fsum F.fld (fun i => smul F.p (F.m + 1) (ch n (i + 1)) (F.mul (F.pw a (i + 1)) (F.pw b (n + 1 - (i + 1))))) (n + 1)) := cD
  rw [b0]; have hB := Jp o (fun k => smul F.p (F.m + 1) (ch n k) (F.mul (F.pw a k) (F.pw b (n + 1 - k)))) (n + 1) fun i _ => sl _ _
  have f0 : fsum F.fld (fun k => smul F.p (F.m + 1) (ch n k) (F.mul (F.pw a k) (F.pw b (n + 1 - k)))) (n + 1 + 1) = fsum F.fld (fun k => smul F.p (F.m + 1) (ch n k) (F.mul (F.pw a k) (F.pw b (n + 1 - k)))) (n + 1) := by
   show F.add _ (smul F.p (F.m + 1) (ch n (n + 1)) (F.mul (F.pw a (n + 1)) (F.pw b (n + 1 - (n + 1))))) = _; rw [dF n (n + 1) (by omega), Di h.p0]; exact o.add0 _ (De o _ fun i _ => sl _ _)
  rw [f0] at hB; rw [hB, ch_0, ch_0]; have fl : ∀ (f : Nat -> Nat) k, (∀ i, f i < F.q) -> fsum F.fld f k < F.q := fun f k hf => De o k fun i _ => hf i
  have aA : ∀ x y z, x < F.q -> y < F.q -> z < F.q -> F.add (F.add x y) z = F.add x (F.add y z) := o.addA; have aC : ∀ x y, F.add x y = F.add y x := fun x y => Cj _ _ _
  generalize hX : fsum F.fld (fun k => smul F.p (F.m + 1) (ch n k) (F.mul (F.pw a (k + 1)) (F.pw b (n - k)))) (n + 1) = X; generalize hY : fsum F.fld (fun i => smul F.p (F.m + 1) (ch n (i + 1)) (F.mul (F.pw a (i + 1)) (F.pw b (n + 1 - (i + 1))))) (n + 1) = Y; generalize hZ : smul F.p (F.m + 1) 1 (F.mul (F.pw a 0) (F.pw b (n + 1 - 0))) = Z; have lX : X < F.q := by rw [<- hX]; exact fl _ _ fun _ => sl _ _
  have lY : Y < F.q := by rw [<- hY]; exact fl _ _ fun _ => sl _ _
  have lZ : Z < F.q := by rw [<- hZ]; exact sl _ _
  show F.add X (F.add Z Y) = F.add Z (F.add X Y); rw [<- aA _ _ _ lX lZ lY, aC X Z, aA _ _ _ lZ lX lY]
theorem dY : F.pw (F.add a b) F.p = F.add (F.pw a F.p) (F.pw b F.p) := by
 have o := h.fldOk
 have g0 := h.p2
 have sl : ∀ k x, smul F.p (F.m + 1) k x < F.q := fun k x => Dl h.p0 _ _ _
 have hq := h.q2
 rw [qO h ha hb F.p, fsum]
 have e1 := Ht o (F.p) (i := 0) (by omega) (f := fun k => smul F.p (F.m + 1) (ch F.p k) (F.mul (F.pw a k) (F.pw b (F.p - k)))) (sl _ _) fun j hj i0 => by
  have := lL g0 h.prime (by omega) hj; show smul F.p (F.m + 1) (ch F.p j) _ = 0; rw [<- Gy h.p0, this, Di h.p0]
 rw [e1]
 simp only [ch_0, oH, qaa, Nat.sub_zero]
 have lb := h.pw_lt b F.p
 have la := h.pw_lt a F.p
 have e2 : F.mul (F.pw a 0) (F.pw b F.p) = F.pw b F.p := h.one_mul lb
 have e3 : F.mul (F.pw a F.p) (F.pw b 0) = F.pw a F.p := h.mul_one la
 rw [e2, e3, Em h.p0 lb, Em h.p0 la]
 exact Cj _ _ _
theorem Wp : ∀ k, F.pw (F.add a b) (F.p ^ k) = F.add (F.pw a (F.p ^ k)) (F.pw b (F.p ^ k))
 | 0 => by rw [Nat.pow_zero, h.pw_1 (h.add_lt _ _), h.pw_1 ha, h.pw_1 hb]
 | k + 1 => by
  rw [qr, h.pw_mul _ _ (h.add_lt _ _), h.pw_mul _ _ ha, h.pw_mul _ _ hb, Wp k, dY h (h.pw_lt _ _) (h.pw_lt _ _)]
end
def Ei (F : FD) (x : Nat) : Nat -> Nat
 | 0 => x
 | n + 1 => F.pw (Ei F x n) F.p
theorem Lf {F : FD} (h : F.Ok) {x : Nat} (hx : x < F.q) : ∀ n, Ei F x n < F.q
 | 0 => hx
 | n + 1 => h.pw_lt _ _
def Be (F : FD) (x d : Nat) : Nat -> Nat
 | 0 => x
 | i + 1 => Ei F (Be F x d i) (d % (F.m + 1))
theorem Ed {F : FD} (h : F.Ok) {x d : Nat} (hx : x < F.q) : ∀ i, Be F x d i < F.q
 | 0 => hx
 | i + 1 => Lf h (Ed h hx i) _
def Bm (F : FD) (x d : Nat) : NQ := (List.range ((F.m + 1) / d)).map (Be F x d)
theorem Sh (F : FD) (x d : Nat) : (Bm F x d).length = (F.m + 1) / d := by simp [Bm]
theorem Rt (F : FD) (x d : Nat) {i : Nat} (hi : i < (F.m + 1) / d) : (Bm F x d).getD i 0 = Be F x d i := by
 simp [Bm, qa, hi]
def perN (F : FD) (x d : Nat) : Nat -> Nat -> Nat
 | 0, i => i
 | f + 1, i => if Be F x d i = x then i else perN F x d f (i + 1)
theorem dN {F : FD} {x d i : Nat} (hs : Be F x d i = x) : ∀ f j, j <= i -> i <= j + f -> (∀ k, j <= k -> k < i -> Be F x d k ≠ x) -> perN F x d f j = i
 | 0, j, h1, h2, _ => by rw [perN]; omega
 | f + 1, j, h1, h2, hl => by
  rw [perN]
  by_cases e : j = i
  ·rw [e, if_pos hs]
  ·rw [if_neg (hl j (qb _) (by omega))]
   exact dN hs f (j + 1) (by omega) (by omega) fun k h3 h4 => hl k (by omega) h4
def Io (F : FD) (x d : Nat) : NQ := (List.range (perN F x d ((F.m + 1) / d) 1)).map (Be F x d)
section
variable {F : FD} (h : F.Ok) {x d : Nat} (hx : x < F.q)
include h hx
theorem Vs : ∀ k, Ei F x k = F.pw x (F.p ^ k)
 | 0 => by rw [Nat.pow_zero, h.pw_1 hx]; rfl
 | k + 1 => by rw [Ei, Vs k, qr, h.pw_mul _ _ hx]
theorem Re (hd : d <= F.m + 1) : Ei F x (d % (F.m + 1)) = F.pw x (F.p ^ d) := by
 by_cases e : d = F.m + 1
 ·rw [e, Nat.mod_self]
  exact (h.pw_q hx).symm
 ·rw [Bq (by omega), Vs h hx]
theorem Xe (hd : d <= F.m + 1) : ∀ i, Be F x d i = F.pw x (F.p ^ (d * i))
 | 0 => by rw [qce, Nat.pow_zero, h.pw_1 hx]; rfl
 | i + 1 => by
  rw [Be, Xe hd i, Re h (h.pw_lt _ _) hd, <- h.pw_mul _ _ hx, qco, Nat.pow_add]
theorem Pb (hd : (F.m + 1) % d = 0) : Be F x d ((F.m + 1) / d) = x := by
 have a0 : d <= F.m + 1 := qaz (by omega) (Vq hd)
 rw [Xe h hx a0, Nat.mul_div_cancel' (Vq hd)]
 exact h.pw_q hx
omit h hx in
theorem Qn {F : Fld} (f : Nat -> Nat) : ∀ n, ((List.range n).map f).foldl F.add 0 = fsum F f n
 | 0 => rfl
 | n + 1 => by rw [qaj, qam, List.foldl_append, Qn f n]; rfl
omit hx in
theorem Ut (k : Nat) {f : Nat -> Nat} (hf : ∀ i, f i < F.q) : ∀ n, F.pw (fsum F.fld f n) (F.p ^ k) = fsum F.fld (fun i => F.pw (f i) (F.p ^ k)) n
 | 0 => by
  show F.pw 0 (F.p ^ k) = 0; obtain ⟨j, hj⟩ : ∃ j, F.p ^ k = j + 1 := ⟨F.p ^ k - 1, by have := qbd (n := k) h.p0; omega⟩
  rw [hj]; exact h.mul_zero _
 | n + 1 => by
  rw [fsum, fsum, <- Ut k hf n]; exact Wp h (De h.fldOk n fun i _ => hf i) (hf n) k
theorem Vm (hd : (F.m + 1) % d = 0) : F.pw ((Bm F x d).foldl F.add 0) (F.p ^ d) = (Bm F x d).foldl F.add 0 := by
 have o := h.fldOk
 have a0 : d <= F.m + 1 := qaz (by omega) (Vq hd)
 have e0 : (Bm F x d).foldl F.add 0 = fsum F.fld (Be F x d) ((F.m + 1) / d) := Qn (F := F.fld) _ _
 have hl : ∀ i, Be F x d i < F.q := Ed h hx
 rw [e0, Ut h d hl]
 have e1 : fsum F.fld (fun i => F.pw (Be F x d i) (F.p ^ d)) ((F.m + 1) / d) = fsum F.fld (fun i => Be F x d (i + 1)) ((F.m + 1) / d) :=
  Bp _ fun i _ => by rw [Be, Re h (hl i) a0]
 rw [e1]
 have e2 := Jp o (Be F x d) ((F.m + 1) / d) fun i _ => hl i
 have e3 : fsum F.fld (Be F x d) ((F.m + 1) / d + 1) = F.add (fsum F.fld (Be F x d) ((F.m + 1) / d)) (Be F x d ((F.m + 1) / d)) := rfl
 rw [Pb h hx hd] at e3
 have e4 : F.add x (fsum F.fld (fun i => Be F x d (i + 1)) ((F.m + 1) / d)) = F.add x (fsum F.fld (Be F x d) ((F.m + 1) / d)) := by
  rw [show F.add x (fsum F.fld (Be F x d) ((F.m + 1) / d)) = F.add (fsum F.fld (Be F x d) ((F.m + 1) / d)) x from Cj _ _ _, <- e3]; exact e2.symm
 exact o.cancel hx (De o _ fun i _ => hl _) (De o _ fun i _ => hl _) e4
end
end Fq
end
end Go.Proofs.YtoalkldfhkabnaaGreatDoor
