/- Part of WholeTraces. -/
import Derived.Test.YtoalkldfhkabnaaGreatDoorW00
import Derived.Test.YtoalkldfhkabnaaGreatDoorW07
import Derived.Test.YtoalkldfhkabnaaGreatDoorW11
import Derived.Test.YtoalkldfhkabnaaGreatDoorW12
import Derived.Test.YtoalkldfhkabnaaGreatDoorW15
set_option linter.all false
set_option maxRecDepth 10000
set_option maxHeartbeats 16000000
namespace Go.Proofs.YtoalkldfhkabnaaGreatDoor
open Go.RowKit Fq
section
namespace Fq
def mR (f : Nat -> Nat) (R : LQ) : LQ := R.map (List.map f)
theorem Of {α β : Type} (f : α -> β) (l : List α) (i : Nat) (d : α) : (l.map f).getD i (f d) = f (l.getD i d) := by
 by_cases hi : i < l.length
 ·simp [qa, hi]
 ·simp [qa, hi]
theorem Mx (f : Nat -> Nat) (R : LQ) (i : Nat) : (mR f R).getD i [] = (R.getD i []).map f := Of (List.map f) R i []
theorem Zg {f : Nat -> Nat} (h0 : f 0 = 0) (R : LQ) (i j : Nat) : ent (mR f R) i j = f (ent R i j) := by
 unfold ent
 rw [Mx]
 have := Of f (R.getD i []) j 0
 rwa [h0] at this
theorem Sk (f : Nat -> Nat) (R : LQ) (i : Nat) (r : NQ) : mR f (R.set i r) = (mR f R).set i (r.map f) := by
 unfold mR; rw [List.map_set]
theorem rY (f : Nat -> Nat) (R : LQ) : (mR f R).length = R.length := by simp [mR]
theorem Uk {p : Nat} : ∀ n a, pneg p n (a % p ^ n) = pneg p n a
 | 0, _ => rfl
 | n + 1, a => by
  have h1 : a % p ^ (n + 1) % p = a % p := by rw [qr]; exact Nat.mod_mod_of_dvd a (qcs p (p ^ n))
  have h2 : a % p ^ (n + 1) / p = a / p % p ^ n := by rw [qr, qw, qbs]
  rw [pneg, pneg, h1, h2, Uk n]
section
variable {K F : FD} (hK : K.Ok) (hF : F.Ok) {r : Nat} (hr : Root K F r) (hm : F.m = K.m)
include hK hF hr
theorem nJ (a : Nat) : phi K F r (F.neg a) = K.neg (phi K F r a) := by
 have hq : a % F.q < F.q := qu _ (by have := hF.q2; omega)
 have e1 : F.neg (a % F.q) = F.neg a := Uk _ _
 have e2 : phi K F r (a % F.q) = phi K F r a := by
  unfold phi FD.q; rw [Pn]
 rw [<- e1, cJ hK hr _ hq hF, e2]
include hm
omit hK hF in
theorem sJ : K.q = F.q := by unfold FD.q; rw [hr.p, hm]
theorem mG (a : Nat) : phi K F r (F.inv a) = K.inv (phi K F r a) := by
 unfold FD.inv
 rw [Sl hK hF hr, sJ hr hm]
omit hm in
theorem aF (v u : NQ) (a : Nat) : (addRow F.fld v a u).map (phi K F r) = addRow K.fld (v.map (phi K F r)) (phi K F r a) (u.map (phi K F r)) := by
 unfold addRow
 rw [List.map_zipWith, List.zipWith_map]
 congr 1
 funext x y
 show phi K F r (F.add x (F.mul a y)) = K.add (phi K F r x) (K.mul (phi K F r a) (phi K F r y))
 rw [Nx hK hr, Oc hK hF hr]
omit hm in
theorem Ts (u : NQ) (a : Nat) : (Bb F.fld a u).map (phi K F r) = Bb K.fld (phi K F r a) (u.map (phi K F r)) := by
 unfold Bb
 rw [qcp, qcp]
 congr 1
 funext x
 exact Oc hK hF hr a x
omit hm in
theorem dI (R : LQ) (a c : Nat) : ∀ i, mR (phi K F r) (clr F.fld R a c i) = clr K.fld (mR (phi K F r) R) a c i
 | 0 => rfl
 | i + 1 => by
  have h0 := Hz (F := K) (S := F) (r := r) hK; have ih := dI R a c i; rw [clr, clr]; split
  ·exact ih
  ·rw [Sk, ih, aF hK hF hr, Mx, <- ih, Mx, Zg h0]
   congr 2
   exact nJ hK hF hr _
theorem fH (R : LQ) (a c : Nat) : mR (phi K F r) (Cx F.fld R a c) = Cx K.fld (mR (phi K F r) R) a c := by
 have h0 := Hz (F := K) (S := F) (r := r) hK
 unfold Cx
 rw [Sk, Ts hK hF hr, Zg h0, Mx]
 congr 2
 exact mG hK hF hr hm _
omit hK hF hr hm in
theorem dQ (f : Nat -> Nat) (R : LQ) (i k : Nat) : mR f (Cf R i k) = Cf (mR f R) i k := by
 unfold Cf
 rw [Sk, Sk, Mx, Mx]
omit hm in
theorem Vv {n : Nat} {R : LQ} (hR : Mat F.fld n R) (c : Nat) : ∀ f k, fpiv (mR (phi K F r) R) c f k = fpiv R c f k
 | 0, _ => rfl
 | f + 1, k => by
  have h0 := Hz (F := K) (S := F) (r := r) hK; have hl : ent R k c < F.q := hR.lt hF.fldOk k c; rw [fpiv, fpiv, Zg h0, Vv hR c f]
  by_cases e : ent R k c = 0
  ·rw [if_pos e, e, h0, if_pos rfl]
  ·rw [if_neg e, if_neg (mT hK hF hr hl e)]
theorem jD {n : Nat} {R : LQ} (hR : Mat F.fld n R) (P : NQ) (c : Nat) : Bg K.fld c (mR (phi K F r) R, P) = (mR (phi K F r) (Bg F.fld c (R, P)).1, (Bg F.fld c (R, P)).2) := by
 unfold Bg
 simp only
 rw [rY, Vv hK hF hr hR]
 split
 ·rw [dI hK hF hr, fH hK hF hr hm, dQ]
 ·rfl
theorem Wd {n : Nat} {R : LQ} (hR : Mat F.fld n R) : ∀ c, c <= n -> elim K.fld (mR (phi K F r) R) c = (mR (phi K F r) (elim F.fld R c).1, (elim F.fld R c).2)
 | 0, _ => rfl
 | c + 1, hc => by
  have hM := (Fs hF.fldOk hR c (by omega)).mat; rw [elim, elim, Wd hR c (by omega), jD hK hF hr hm hM]
omit hm in
theorem Sc (x : Nat) : ∀ k, phi K F r (Ei F x k) = Ei K (phi K F r x) k
 | 0 => rfl
 | k + 1 => by rw [Ei, Ei, Sl hK hF hr, Sc x k, hr.p]
theorem Mf (x d : Nat) : ∀ i, phi K F r (Be F x d i) = Be K (phi K F r x) d i
 | 0 => rfl
 | i + 1 => by rw [Be, Be, Sc hK hF hr, Mf x d i, hm]
theorem Rg (x d : Nat) : (Bm F x d).map (phi K F r) = Bm K (phi K F r x) d := by
 unfold Bm
 rw [qcp, hm]
 congr 1
 funext i
 exact Mf hK hF hr hm x d i
theorem iM (l : NQ) (d : Nat) (right : NQ) : mR (phi K F r) (sysL F l d right) = sysL K (l.map (phi K F r)) d (right.map (phi K F r)) := by
 have h0 := Hz (F := K) (S := F) (r := r) hK
 unfold sysL mR
 rw [qcp, qak]
 congr 1
 funext i
 have e := Of (phi K F r) right i 0
 rw [h0] at e
 show ((l.map fun z => Be F z d i) ++ [right.getD i 0]).map (phi K F r) = _
 rw [qam, qcp, qcp, e]
 congr 1
 congr 1
 funext z
 exact Mf hK hF hr hm z d i
omit hK hr hm in
theorem Uf {l right : NQ} {d : Nat} (hl : ∀ x ∈ l, x < F.q) (hx : ∀ x ∈ right, x < F.q) : Mat F.fld (l.length + 1) (sysL F l d right) := by
 intro n0 d0
 unfold sysL at d0
 obtain ⟨i, hi, rfl⟩ := qz.1 d0
 have g0 := Wq.1 hi
 refine ⟨by simp, fun x j0 => ?_⟩
 rcases qar.1 j0 with h1 | h1
 ·obtain ⟨z, hz, rfl⟩ := qz.1 h1
  exact Ed hF (hl z hz) i
 ·rw [qbm.1 h1]
  exact hx _ (Ap g0 _)
omit hK hr hm in
theorem Lo {x d : Nat} (hx : x < F.q) : ∀ y ∈ Bm F x d, y < F.q := fun y hy => by
 obtain ⟨i, _, rfl⟩ := qz.1 hy
 exact Ed hF hx i
theorem fI {x d : Nat} (hx : x < F.q) : Hm K K.fld (phi K F r x) d = Hm F F.fld x d := by
 have h0 := Hz (F := K) (S := F) (r := r) hK
 have hq := hF.q2
 have hM := Uf (d := d) hF (Lo (d := d) hF hx) (Lo (d := d) hF (show 0 < F.q by omega))
 unfold Hm
 have e1 := iM hK hF hr hm (Bm F x d) d (Bm F 0 d)
 rw [Rg hK hF hr hm, Rg hK hF hr hm, h0] at e1
 rw [<- e1, <- hm, Wd hK hF hr hm hM _ (by rw [Sh]; omega)]
end
theorem eO (F : FD) : Hm F F.fld 1 (F.m + 1) = true := by
 unfold Hm sysL Bm
 rw [Nat.div_self (by omega)]
 simp [elim, Bg, fpiv, ent, Be]
theorem Ek {p m v : Nat} (h2 : 2 <= p) (hp : ∀ d, 2 <= d -> d < p -> p % d ≠ 0) (hq : p ^ (m + 1) <= 256) (hv : v < p ^ (m + 1)) (hm : m ≠ 0) (hi : chkI ⟨p, m, v, 0⟩ = true) : ∃ x, FD.Ok ⟨p, m, v, x⟩ :=
 Iw h2 hp hq hv (fun e => absurd e hm) fun _ => hi
theorem Ci {p m v d x y : Nat} (hk : FD.Ok ⟨p, m, v, y⟩) (hc : chkN ⟨p, m, v, 0⟩ d x = true) (hx : x < p ^ (m + 1)) : ∃ K : FD, K.Ok ∧ K.p = p ∧ K.m = m ∧ ∃ x, x < K.q ∧ Hm K K.fld x d = true := by
 refine ⟨⟨p, m, v, y⟩, hk, rfl, rfl, x, hx, ?_⟩
 unfold chkN at hc
 rw [nX] at hc
 have e : cP ⟨p, m, v, 0⟩ = FD.fld ⟨p, m, v, 0⟩ := mO hk.p1 hk.q256
 rw [e] at hc
 have e0 : ∀ a n, FD.pw ⟨p, m, v, y⟩ a n = FD.pw ⟨p, m, v, 0⟩ a n := fun a n => by
  induction n with
  | zero => rfl
  | succ n ih => show mul p m v (FD.pw ⟨p, m, v, y⟩ a n) a = mul p m v (FD.pw ⟨p, m, v, 0⟩ a n) a; rw [ih]
 have f0 : ∀ a n, Ei ⟨p, m, v, y⟩ a n = Ei ⟨p, m, v, 0⟩ a n := fun a n => by
  induction n with
  | zero => rfl
  | succ n ih => rw [Ei, Ei, ih]; exact e0 _ _
 have c0 : ∀ a d n, Be ⟨p, m, v, y⟩ a d n = Be ⟨p, m, v, 0⟩ a d n := fun a d n => by
  induction n with
  | zero => rfl
  | succ n ih => rw [Be, Be, ih]; exact f0 _ _
 have ee : ∀ a d, Bm ⟨p, m, v, y⟩ a d = Bm ⟨p, m, v, 0⟩ a d := fun a d => by
  unfold Bm
  congr 1
  funext i
  exact c0 a d i
 have se : ∀ l r, sysL ⟨p, m, v, y⟩ l d r = sysL ⟨p, m, v, 0⟩ l d r := fun l r => by
  unfold sysL
  congr 1
  funext i
  congr 2
  funext z
  exact c0 z d i
 have fe : FD.fld ⟨p, m, v, y⟩ = FD.fld ⟨p, m, v, 0⟩ := by
  unfold FD.fld
  congr 1
  funext a
  exact e0 _ _
 unfold Hm at hc ⊢
 rw [ee, ee, se, fe]
 exact hc
theorem Uo {p m d : Nat} (h2 : 2 <= p) (hp : ∀ d, 2 <= d -> d < p -> p % d ≠ 0) (hq : p ^ (m + 1) <= 256) (hd : (m + 1) % d = 0) (hd0 : 0 < d) (hdm : d <= m) : ∃ K : FD, K.Ok ∧ K.p = p ∧ K.m = m ∧ ∃ x, x < K.q ∧ Hm K K.fld x d = true := by
 have a1 : p ^ 2 <= p ^ (m + 1) := qy (by omega) (by omega)
 have a2 : p <= 16 := by
  by_cases e : p <= 16
  ·exact e
  ·have : 17 ^ 2 <= p ^ 2 := qbi (by omega) 2
   omega
 have a3 : 2 ^ (m + 1) <= p ^ (m + 1) := qbi h2 _
 have a4 : m <= 7 := by
  by_cases e : m <= 7
  ·exact e
  ·have : 2 ^ 9 <= 2 ^ (m + 1) := qy (by omega) (by omega)
   omega
 have c2 : p % 2 ≠ 0 ∨ p = 2 := by
  by_cases e : p = 2
  ·exact .inr e
  ·exact .inl (hp 2 (by omega) (by omega))
 have c3 : p % 3 ≠ 0 ∨ p <= 3 := by
  by_cases e : p <= 3
  ·exact .inr e
  ·exact .inl (hp 3 (by omega) (by omega))
 have i0 : p = 2 ∨ p = 3 ∨ p = 5 ∨ p = 7 ∨ p = 11 ∨ p = 13 := by omega
 have b0 : m = 1 ∨ m = 2 ∨ m = 3 ∨ m = 4 ∨ m = 5 ∨ m = 6 ∨ m = 7 := by omega
 clear a1 a2 a3 a4 c2 c3
 rcases i0 with rfl | rfl | rfl | rfl | rfl | rfl
 ·rcases b0 with rfl | rfl | rfl | rfl | rfl | rfl | rfl
  ·obtain ⟨y, hy⟩ := Ek h2 hp hq (v := 3) (by decide) (by decide) nC
   have a0 : d = 1 := by omega
   subst a0; exact Ci hy Xn (by decide)
  ·obtain ⟨y, hy⟩ := Ek h2 hp hq (v := 3) (by decide) (by decide) lF
   have a0 : d = 1 ∨ d = 2 := by omega
   rcases a0 with rfl | rfl
   ·exact Ci hy Xt (by decide)
   ·exact absurd hd (by decide)
  ·obtain ⟨y, hy⟩ := Ek h2 hp hq (v := 3) (by decide) (by decide) jB
   have a0 : d = 1 ∨ d = 2 ∨ d = 3 := by omega
   rcases a0 with rfl | rfl | rfl
   ·exact Ci hy Zn (by decide)
   ·exact Ci hy Zv (by decide)
   ·exact absurd hd (by decide)
  ·obtain ⟨y, hy⟩ := Ek h2 hp hq (v := 5) (by decide) (by decide) mC
   have a0 : d = 1 ∨ d = 2 ∨ d = 3 ∨ d = 4 := by omega
   rcases a0 with rfl | rfl | rfl | rfl
   ·exact Ci hy Xk (by decide)
   ·exact absurd hd (by decide)
   ·exact absurd hd (by decide)
   ·exact absurd hd (by decide)
  ·obtain ⟨y, hy⟩ := Ek h2 hp hq (v := 3) (by decide) (by decide) nY
   have a0 : d = 1 ∨ d = 2 ∨ d = 3 ∨ d = 4 ∨ d = 5 := by omega
   rcases a0 with rfl | rfl | rfl | rfl | rfl
   ·exact Ci hy aG (by decide)
   ·exact Ci hy Zu (by decide)
   ·exact Ci hy aT (by decide)
   ·exact absurd hd (by decide)
   ·exact absurd hd (by decide)
  ·obtain ⟨y, hy⟩ := Ek h2 hp hq (v := 3) (by decide) (by decide) lG
   have a0 : d = 1 ∨ d = 2 ∨ d = 3 ∨ d = 4 ∨ d = 5 ∨ d = 6 := by omega
   rcases a0 with rfl | rfl | rfl | rfl | rfl | rfl
   ·exact Ci hy aI (by decide)
   ·exact absurd hd (by decide)
   ·exact absurd hd (by decide)
   ·exact absurd hd (by decide)
   ·exact absurd hd (by decide)
   ·exact absurd hd (by decide)
  ·obtain ⟨y, hy⟩ := Ek h2 hp hq (v := 27) (by decide) (by decide) jS
   have a0 : d = 1 ∨ d = 2 ∨ d = 3 ∨ d = 4 ∨ d = 5 ∨ d = 6 ∨ d = 7 := by omega
   rcases a0 with rfl | rfl | rfl | rfl | rfl | rfl | rfl
   ·exact Ci hy aX (by decide)
   ·exact Ci hy Yv (by decide)
   ·exact absurd hd (by decide)
   ·exact Ci hy Yi (by decide)
   ·exact absurd hd (by decide)
   ·exact absurd hd (by decide)
   ·exact absurd hd (by decide)
 ·rcases b0 with rfl | rfl | rfl | rfl | rfl | rfl | rfl
  ·obtain ⟨y, hy⟩ := Ek h2 hp hq (v := 1) (by decide) (by decide) jT
   have a0 : d = 1 := by omega
   subst a0; exact Ci hy Zp (by decide)
  ·obtain ⟨y, hy⟩ := Ek h2 hp hq (v := 7) (by decide) (by decide) nG
   have a0 : d = 1 ∨ d = 2 := by omega
   rcases a0 with rfl | rfl
   ·exact Ci hy aN (by decide)
   ·exact absurd hd (by decide)
  ·obtain ⟨y, hy⟩ := Ek h2 hp hq (v := 5) (by decide) (by decide) iI
   have a0 : d = 1 ∨ d = 2 ∨ d = 3 := by omega
   rcases a0 with rfl | rfl | rfl
   ·exact Ci hy Yz (by decide)
   ·exact Ci hy Yx (by decide)
   ·exact absurd hd (by decide)
  ·obtain ⟨y, hy⟩ := Ek h2 hp hq (v := 7) (by decide) (by decide) mN
   have a0 : d = 1 ∨ d = 2 ∨ d = 3 ∨ d = 4 := by omega
   rcases a0 with rfl | rfl | rfl | rfl
   ·exact Ci hy Xx (by decide)
   ·exact absurd hd (by decide)
   ·exact absurd hd (by decide)
   ·exact absurd hd (by decide)
  ·exact absurd hq (by decide)
  ·exact absurd hq (by decide)
  ·exact absurd hq (by decide)
 ·rcases b0 with rfl | rfl | rfl | rfl | rfl | rfl | rfl
  ·obtain ⟨y, hy⟩ := Ek h2 hp hq (v := 2) (by decide) (by decide) kX
   have a0 : d = 1 := by omega
   subst a0; exact Ci hy Ym (by decide)
  ·obtain ⟨y, hy⟩ := Ek h2 hp hq (v := 6) (by decide) (by decide) iV
   have a0 : d = 1 ∨ d = 2 := by omega
   rcases a0 with rfl | rfl
   ·exact Ci hy Yj (by decide)
   ·exact absurd hd (by decide)
  ·exact absurd hq (by decide)
  ·exact absurd hq (by decide)
  ·exact absurd hq (by decide)
  ·exact absurd hq (by decide)
  ·exact absurd hq (by decide)
 ·rcases b0 with rfl | rfl | rfl | rfl | rfl | rfl | rfl
  ·obtain ⟨y, hy⟩ := Ek h2 hp hq (v := 1) (by decide) (by decide) lT
   have a0 : d = 1 := by omega
   subst a0; exact Ci hy Zc (by decide)
  ·exact absurd hq (by decide)
  ·exact absurd hq (by decide)
  ·exact absurd hq (by decide)
  ·exact absurd hq (by decide)
  ·exact absurd hq (by decide)
  ·exact absurd hq (by decide)
 ·rcases b0 with rfl | rfl | rfl | rfl | rfl | rfl | rfl
  ·obtain ⟨y, hy⟩ := Ek h2 hp hq (v := 1) (by decide) (by decide) dV
   have a0 : d = 1 := by omega
   subst a0; exact Ci hy Xg (by decide)
  ·exact absurd hq (by decide)
  ·exact absurd hq (by decide)
  ·exact absurd hq (by decide)
  ·exact absurd hq (by decide)
  ·exact absurd hq (by decide)
  ·exact absurd hq (by decide)
 ·rcases b0 with rfl | rfl | rfl | rfl | rfl | rfl | rfl
  ·obtain ⟨y, hy⟩ := Ek h2 hp hq (v := 2) (by decide) (by decide) gD
   have a0 : d = 1 := by omega
   subst a0; exact Ci hy Wo (by decide)
  ·exact absurd hq (by decide)
  ·exact absurd hq (by decide)
  ·exact absurd hq (by decide)
  ·exact absurd hq (by decide)
  ·exact absurd hq (by decide)
  ·exact absurd hq (by decide)
theorem Zr {F : FD} (h : F.Ok) {d : Nat} (hd : (F.m + 1) % d = 0) (h0 : 0 < d) : ∃ x, x < F.q ∧ Hm F F.fld x d = true := by
 have m0 : d <= F.m + 1 := qaz (by omega) (Vq hd)
 by_cases e : d = F.m + 1
 ·rw [e]
  exact ⟨1, by have := h.q2; omega, eO F⟩
 ·obtain ⟨K, hK, hp, hm, x, hx, hn⟩ := Uo h.p2 h.prime h.q256 hd h0 (by omega)
  obtain ⟨r, hr⟩ := Ou hK h hp.symm (by rw [hm, Nat.mod_self]); have l0 : K.pw x F.q = x := by
   have e : F.q = K.q := by unfold FD.q; rw [hp, hm]
   rw [e]; exact hK.pw_q hx
  obtain ⟨a, ha, rfl⟩ := Vy hK h hr (by rw [hm, Nat.mod_self]) hx l0; exact ⟨a, ha, by rw [<- fI hK h hr hm.symm ha]; exact hn⟩
end Fq
end
theorem Jy (w : WQ) (b : Nat) (F : FD) (hG : GFat w b F) (x : Nat) (hx : x < F.q) (k : Nat) (hk : k <= 1000) : cQ 116 #[pQ b, iv x, nQ k] w (Ah (iv (Ei F x (k % (F.m + 1)))) w) := by
 have hp := Jm w b F hG
 have l0 := hG.bd
 have b0 := hG.ok
 have HP := sK hp
 obtain ⟨M, hM⟩ := xQ (F.m + 1)
 rw [<- hM] at HP ⊢
 have o0 : M <= 8 := by omega
 have j0 : 0 < M := by omega
 obtain ⟨r, d0⟩ := xQ (k % M)
 have n0 : r < M := by rw [d0]; exact qu _ j0
 have m0 := Cg k M
 rw [<- d0] at m0 ⊢
 have r0 : Int.tmod ((r : Int) + (M : Int)) (M : Int) = (r : Int) := by
  rw [show (r : Int) + (M : Int) = ((r + M : Nat) : Int) by omega, Cg, Nat.add_mod_right, Bq n0]
 have h3 : ¬ (M : Int) = 0 := by omega
 have g0 := fun (wx : WQ) (h9 : From w wx) (n : Nat) => rC wx b F (hG.below h9) (Ei F x n) F.p (Lf b0 hx n) (by omega) (by omega)
 have i0 := sK g0
 have c0 := fun (wx : WQ) (h9 : From w wx) => Hh wx b F (hG.below h9) (Ei F x r) 0 (Lf b0 hx r) (by omega)
 rw [show F.add (Ei F x r) 0 = Ei F x r from b0.fldOk.add0 _ (Lf b0 hx r)] at c0
 have h0 := sK c0
 unfold iv at *
 clear hp hG hM l0 g0 c0 d0
 go_enter Tryz.func116, Tryz.ntmps116
 go_upto_region 2 with (go_at_call 105; refine HP.mono ?_; rintro e w2 ⟨rfl, f0⟩)
 have HB := sK f0
 clear f0
 go_wp2
 go_loopw [1, 21] (fun xv e0 wr => ∃ i, i <= r ∧ e0 = nQ i ∧ xv = .int .i64 ((Ei F x i : Nat) : Int) ∧ From w wr) (fun _ e0 _ => r - (intOf e0).toNat)
 case atStart => exact ⟨0, qe _, rfl, rfl, HB.out⟩
 case round =>
  obtain ⟨i, hi, rfl, rfl, hb⟩ := hrel; have a0 := sK hb; clear hb
  by_cases hin : i < r
  ·have q0 : (i : Int) < (r : Int) := by omega
   have h8 := i0 wr a0 i; have H8 := sK h8; have HS : Hid (F.pw (Ei F x i) F.p = Ei F x (i + 1)) := sK rfl; clear h8; rw [HS.out] at H8; go_wp2_with (go_at_call 170; refine H8.mono ?_; rintro e w5 ⟨rfl, j5, rfl⟩); go_roundw
   case rel => exact ⟨i + 1, by omega, by go_num, rfl, Ae a0 j5⟩
   case measure => simp [intOf]; omega
  ·obtain rfl : i = r := by omega
   have h8 := h0 wr a0.out; have H8 := sK h8; clear h8; go_wp2_with (go_at_call 115; refine H8.mono ?_; rintro e w5 ⟨rfl, j5, rfl⟩); go_ret; exact ⟨rfl, Ae a0 j5⟩
theorem Lm (w : WQ) (b : Nat) (F : FD) (hG : GFat w b F) (x : Nat) (hx : x < F.q) (d : Nat) (hd0 : 0 < d) (hd9 : d <= 8) : cQ 114 #[pQ b, iv x, nQ d] w (RetN ((F.m + 1) / d) (Bm F x d) w) := by
 obtain ⟨i0, d1, e1, f1, g1⟩ := info_parts Bj
 have hp := Jm w b F hG
 have c1 := hG.bd
 have f0 := hG.ok
 have HP := sK hp
 have q0 := fun (wx : WQ) (h9 : From w wx) (i : Nat) => Jy wx b F (hG.below h9) (Be F x d i) (Ed f0 hx i) d (by omega)
 have e0 := fun (wx : WQ) (h9 : From w wx) => Hh wx b F (hG.below h9) x 0 hx (by omega)
 rw [show F.add x 0 = x from f0.fldOk.add0 _ hx] at e0
 have y0 : Hid (∀ (wx : WQ), From w wx -> ∀ i, cQ 116 #[pQ b, iv (Be F x d i), nQ d] wx (Ah (iv (Be F x d (i + 1))) wx)) := sK q0
 have v0 := sK e0
 have b1 : Hid (∀ i, Be F x d i < 1000000) := sK fun i => by have := Ed (d := d) f0 hx i; omega
 have l0 := sK fun i => Rt F x d (i := i)
 have m0 := sK (Sh F x d)
 have j1 : Int.tdiv (((F.m + 1 : Nat) : Int)) (d : Int) = (((F.m + 1) / d : Nat) : Int) := rfl
 have i1 : (F.m + 1) / d <= 8 := qs (qaf _ _) (by omega)
 have h3 : ¬ (d : Int) = 0 := by omega
 unfold RetN
 unfold iv at *
 clear hp hG c1 q0 e0
 generalize Bm F x d = E at *
 generalize hn : (F.m + 1) / d = n at *
 clear hn
 generalize F.m + 1 = M at *
 go_enter Tryz.func114, Tryz.ntmps114
 go_upto_region 2 with (go_at_call 105; refine HP.mono ?_; rintro e w2 ⟨rfl, b0⟩)
 have HB := sK b0
 clear b0
 go_upto_region 3 with (at_make; refine Bd rfl _ _ _ rfl i0 Tryz.underlying22 d1 e1 f1 g1 _ _ n rfl rfl (by omega) ?_; intro w3 r0 n0 k1)
 have h0 := sK (Aa n0 HB.out)
 have t0 := HB.size
 have h8 := v0 w3 h0.out
 have H8 := sK h8
 have z0 := sK r0
 clear h8 r0 n0
 go_upto_region 4 with (go_at_call 115; refine H8.mono ?_; rintro e w4 ⟨rfl, j4, rfl⟩)
 have a1 : Hid (OwnN (w3.drewN j4) w2.heap.size (sQ w2.heap.size) n n (mixL E (List.replicate n 0) 0)) := sK (by rw [Cz]; exact z0.below (Ae (bR) j4))
 have x0 : Hid (From w (w3.drewN j4)) := sK (Ae h0 j4)
 go_wp2
 go_loopw [10, 26] (fun yv g0 wr => ∃ i, i <= n ∧ g0 = nQ i ∧ yv = .int .i64 ((Be F x d i : Nat) : Int) ∧ OwnN wr w2.heap.size (sQ w2.heap.size) n n (mixL E (List.replicate n 0) i) ∧ From w wr) (fun _ g0 _ => n - (intOf g0).toNat)
 case atStart => exact ⟨0, qe _, rfl, rfl, a1.out, x0.out⟩
 case round =>
  obtain ⟨i, hi, rfl, rfl, ho, hb⟩ := hrel; have j0 := sK hb; have c0 := sK ho; clear hb ho
  by_cases hin : i < n
  ·have h1 : (i : Int) < (n : Int) := by omega
   have hc := c0.cell hin; have hf := c0.free i; have a0 := c0.set i (b1 i); rw [<- l0 i hin, Cu m0 (by simp) hin, l0 i hin] at a0; have b0 := j0.setCell (p := ⟨w2.heap.size, i, none⟩) t0 (.int .i64 ((Be F x d i : Nat) : Int)); have d0 := sK a0; have w0 := sK b0; have h8 := y0 _ b0 i; have H9 := sK h8; clear a0 b0 h8; go_wp2_with (go_at_call 116; refine H9.mono ?_; rintro e w5 ⟨rfl, o0⟩); go_roundw
   case rel => exact ⟨i + 1, by omega, by go_num, rfl, d0.below o0, Aa o0 w0.out⟩
   case measure => simp [intOf]; omega
  ·obtain rfl : i = n := by omega
   have a0 := c0.out; rw [Dp m0 (by simp)] at a0; have d0 := sK a0; clear a0; go_wp2; go_ret; exact ⟨_, _, rfl, d0.mono t0, j0.out⟩
theorem eE {F : FD} (h : F.Ok) {x : Nat} (hx : x < F.q) (d : Nat) : Els F (Bm F x d) := fun y hy => by
 obtain ⟨i, _, rfl⟩ := qz.1 hy
 exact Ed h hx i
theorem dS (w : WQ) (b : Nat) (F : FD) (hG : GFat w b F) (x : Nat) (hx : x < F.q) (d : Nat) (hd0 : 0 < d) (hd : (F.m + 1) % d = 0) : cQ 60 #[pQ b, iv x, nQ d] w (Ah (.tuple #[iv (sumL F (Bm F x d)), zQ]) w) := by
 have i0 := hG.bd
 have j0 : d <= 8 := qs (qaz (by omega) (Vq hd)) (by omega)
 have d0 := Ey w b F hG d hd0 hd
 have e0 := fun (wx : WQ) (h9 : From w wx) => Lm wx b F (hG.below h9) x hx d hd0 j0
 have f0 := fun (wx : WQ) (h9 : From w wx) (A : OQ) (c : Nat) (hr : RdN wx A ((F.m + 1) / d) c (Bm F x d)) => qU wx b F (hG.below h9) A _ c _ hr (eE hG.ok hx d)
 have g0 := sK d0
 have a0 := sK e0
 have h0 := sK f0
 unfold RetN at a0
 unfold iv at *
 clear d0 e0 f0 hG i0 hd hx
 generalize sumL F (Bm F x d) = sm at *
 generalize Bm F x d = E at *
 generalize (F.m + 1) / d = n at *
 go_enter Tryz.func60, Tryz.ntmps60
 go_upto_region 3 with (go_at_call 106; refine g0.mono ?_; rintro e w2 ⟨rfl, b0⟩)
 have HB := sK b0
 clear b0
 have H2 := sK (a0 w2 HB.out)
 go_wp2_with (first | (go_at_call 114; refine H2.mono ?_; rintro e w3 ⟨A, c, rfl, ho, c0⟩) | (go_at_call 118; refine (h0 w3 (Aa c0 HB.out) _ _ ho.rd).mono ?_; rintro e w4 ⟨rfl, j4, rfl⟩))
 go_ret2
 exact ⟨rfl, Ae (Aa c0 HB.out) j4⟩
def Wl (n : Nat) (l : NQ) (w : WQ) (e : Ending) (w' : WQ) : Prop :=
 ∃ A c, e = .returned (.tuple #[.slice A n c, zQ]) ∧ OwnN w' w.heap.size A n c l ∧ Below w.heap.size w w'
theorem eT (F : FD) (x d n : Nat) : (List.range (n + 1)).map (Be F x d) = (List.range n).map (Be F x d) ++ [Be F x d n] := by
 rw [qaj, qam]; rfl
theorem Qe (w : WQ) (b : Nat) (F : FD) (hG : GFat w b F) (x : Nat) (hx : x < F.q) (d : Nat) (hd0 : 0 < d) (hd : (F.m + 1) % d = 0) : cQ 57 #[pQ b, iv x, nQ d] w (Wl (perN F x d ((F.m + 1) / d) 1) (Io F x d) w) := by
 obtain ⟨i0, m1, w1, x1, y1⟩ := info_parts Bj
 have k1 := hG.bd
 have c0 := hG.ok
 have z1 : d <= 8 := qs (qaz (by omega) (Vq hd)) (by omega)
 have t0 : d <= F.m + 1 := qaz (by omega) (Vq hd)
 have q1 : 1 <= (F.m + 1) / d := Nat.div_pos t0 hd0
 have d2 : (F.m + 1) / d <= 8 := qs (qaf _ _) (by omega)
 have b1 := sK (Ey w b F hG d hd0 hd)
 have q0 := fun (wx : WQ) (h9 : From w wx) (i : Nat) => Jy wx b F (hG.below h9) (Be F x d i) (Ed c0 hx i) d (by omega)
 have g0 := fun (wx : WQ) (h9 : From w wx) => Hh wx b F (hG.below h9) x 0 hx (by omega)
 rw [show F.add x 0 = x from c0.fldOk.add0 _ hx] at g0
 have m0 : Hid (∀ (wx : WQ), From w wx -> ∀ i, cQ 116 #[pQ b, .int .i64 ((Be F x d i : Nat) : Int), nQ d] wx (Ah (.int .i64 ((Be F x d (i + 1) : Nat) : Int)) wx)) := sK q0
 have w0 := sK g0
 have n0 : Hid (∀ i, Be F x d i < 1000000) := sK fun i => by have := Ed (d := d) c0 hx i; omega
 have a1 := sK (Pb c0 hx hd)
 have i1 := sK fun (i : Nat) (h1 : 1 <= i) (h2 : i <= (F.m + 1) / d) (hs : Be F x d i = x) (hl : ∀ k, 1 <= k -> k < i -> Be F x d k ≠ x) => dN hs ((F.m + 1) / d) 1 h1 (by omega) hl
 have j1 := sK (eT F x d)
 have f2 := n0.out 0
 unfold Wl Io
 unfold iv at *
 clear q0 g0 hG k1 hd t0 c0
 generalize hN : (F.m + 1) / d = N at *
 clear hN
 generalize hPP : perN F x d N 1 = PP at *
 clear hPP
 have v1 : x < 1000000 := by have : Be F x d 0 = x := rfl; omega
 go_enter Tryz.func57, Tryz.ntmps57
 go_upto_region 3 with (go_at_call 106; refine b1.mono ?_; rintro e w2 ⟨rfl, h0⟩)
 have x0 := sK h0
 have H3 := sK (w0 w2 h0)
 clear h0
 go_upto_region 4 with (go_at_call 115; refine H3.mono ?_; rintro e w3 ⟨rfl, j3, rfl⟩)
 have b0 : From w (w2.drewN j3) := Ae x0 j3
 generalize w2.drewN j3 = w3 at *
 go_upto_region 5 with fail
 have f0 : OwnN (w3.alloc (.cells #[nQ x] 3)) w.heap.size (sQ w3.heap.size) 1 1 ((List.range 1).map (Be F x d)) := OwnN.lit w3 [x] 1 rfl b0.size (by unfold maxLen; omega) (Sm.one v1)
 have d0 : From w (w3.alloc (.cells #[nQ x] 3)) := b0.alloc b0.size _
 obtain ⟨w4, v0⟩ := xQ (w3.alloc (.cells #[nQ x] 3))
 rw [<- v0] at f0 d0 ⊢
 have e2 := b0.size
 generalize w3.heap.size = g4 at *
 clear v0 b0
 have H5 := sK (m0 w4 d0 0)
 have f1 := sK f0
 have y0 := sK d0
 clear f0 d0
 go_wp2_with (go_at_call 116; refine H5.mono ?_; rintro e w5 ⟨rfl, a0⟩)
 have g1 := sK (f1.below a0)
 have z0 := sK (Aa a0 y0.out)
 clear a0
 go_loopw [8, 9] (fun ov yv wr => ∃ i c g : Nat, 1 <= i ∧ i <= N ∧ ov = .slice (sQ g) i c ∧ yv = .int .i64 ((Be F x d i : Nat) : Int) ∧ Hid (∀ k, 1 <= k -> k < i -> Be F x d k ≠ x) ∧ OwnN wr w.heap.size (sQ g) i c ((List.range i).map (Be F x d)) ∧ From w wr) (fun ov _ _ => match ov with | .slice _ n _ => N - n | _ => 0)
 case atStart => exact ⟨1, 1, _, qb _, q1, rfl, rfl, sK (fun k h1 h2 => by omega), g1.out, z0.out⟩
 case round =>
  obtain ⟨i, c, g, l1, n1, rfl, rfl, HL, ho, hb⟩ := hrel; have e0 := sK ho; have l0 := sK hb; have u1 := n0 i; have t1 := hb.size; clear ho hb
  by_cases he : Be F x d i = x
  ·have hP := i1 i l1 n1 he HL.out
   have HP := sK hP; have r1 : (((Be F x d i : Nat) : Int) != (x : Int)) = false := by rw [he]; simp
   clear hP he; generalize Be F x d i = y at *; go_wp2; go_ret2; have h8 := e0.out; rw [<- HP.out] at h8; exact ⟨_, _, congrArg (fun k => Ending.returned (.tuple #[.slice (sQ g) k c, zQ])) HP.symm, h8, l0.out⟩
  ·have a2 : i < N := by
    rcases Nq i N with h9 | h9
    ·exact h9
    ·obtain rfl : i = N := by omega
     exact absurd a1 he
   have d1 : Hid (∀ k, 1 <= k -> k < i + 1 -> Be F x d k ≠ x) := sK fun k h1 h2 => by
    rcases Nq k i with h9 | h9
    ·exact HL k h1 h9
    ·obtain rfl : k = i := by omega
     exact he
   have r1 : (((Be F x d i : Nat) : Int) != (x : Int)) = true := by rw [bne_iff_ne]; omega
   have H9 := m0.out; have c1 : Hid (∀ wx, From w wx -> cQ 116 #[pQ b, .int .i64 ((Be F x d i : Nat) : Int), nQ d] wx (Ah (.int .i64 ((Be F x d (i + 1) : Nat) : Int)) wx)) := sK fun wx h => H9 wx h i
   have hS := j1 i; have HS := sK hS; clear H9 hS he; generalize hY : Be F x d i = y at *; clear hY
   go_wp2_with (first | (at_builtin; refine Bl rfl (.tmp 30) (.tmp 32) 22 rfl i0 Tryz.underlying22 m1 w1 x1 y1 w.heap.size _ _ _ _ rfl (e0.alloc _) _ 0 y rfl (by go_simp) u1 (by omega) (by simp; omega) ?_; intro g' c2 w2 o0 r0 s1; have e1 := sK o0; have j0 := sK ((l0.alloc t1 _).grown r0 (by simp; omega) (fun k9 o1 => by
    rcases e0.form with ⟨h8, _⟩ | ⟨g9, h8, h7, _⟩
    ·cases h8
    ·simp [Value.ownBlock] at o1 h8; omega)); clear o0 r0 s1) | (go_at_call 116; refine (c1 w2 j0.out).mono ?_; rintro e w5 ⟨rfl, a0⟩))
   go_roundw
   case rel => exact ⟨i + 1, c2, g', by omega, by omega, rfl, rfl, d1, by rw [HS.out]; exact e1.below a0, Aa a0 j0.out⟩
   case measure => simp; omega
def fnR (f : Nat -> Nat -> Nat) (n m : Nat) : LQ := (List.range n).map fun a => (List.range m).map fun b => f a b
theorem Ta (f : Nat -> Nat -> Nat) (n m : Nat) : (fnR f n m).length = n := by simp [fnR]
theorem cU (f : Nat -> Nat -> Nat) {n i : Nat} (m : Nat) (hi : i < n) : (fnR f n m).getD i [] = (List.range m).map fun b => f i b := by
 simp [fnR, qa, hi]
theorem Jk {f g : Nat -> Nat -> Nat} {n m : Nat} (h : ∀ a b, a < n -> b < m -> f a b = g a b) : fnR f n m = fnR g n m := by
 unfold fnR
 refine qbh fun a ha => qbh fun b hb => h a b (by simpa using ha) (by simpa using hb)
theorem oG (f : Nat -> Nat -> Nat) {n m i j : Nat} (hi : i < n) (x : Nat) : (fnR f n m).set i (((fnR f n m).getD i []).set j x) = fnR (fun a b => if a = i ∧ b = j then x else f a b) n m := by
 rw [cU f m hi]
 refine Tq (by simp [fnR]) fun a h1 h2 => ?_
 rw [qch]
 split
 ·rename_i e
  subst e; simp only [fnR, qcu, qcj]; refine Tq (by simp) fun b h3 h4 => ?_
  rw [qch]; simp only [qcu, qcj]
  by_cases e : j = b
  ·subst e; simp
  ·rw [if_neg e, if_neg (fun h => e h.2.symm)]
 ·rename_i e
  simp only [fnR, qcu, qcj]; refine qbh fun b _ => ?_
  rw [if_neg (fun h => e h.1.symm)]
theorem iR (f : Nat -> Nat -> Nat) (n m : Nat) : fnR f (n + 1) m = fnR f n m ++ [(List.range m).map fun b => f n b] := by
 simp [fnR, qaj]
theorem oP (F : FD) (l : NQ) (d : Nat) (right : NQ) : sysL F l d right = fnR (fun a b => if b < l.length then Be F (l.getD b 0) d a else right.getD a 0) right.length (l.length + 1) := by
 unfold sysL fnR
 refine qbh fun a _ => ?_
 rw [qaj, qam]
 congr 1
 ·refine Tq (by simp) fun b h1 h2 => ?_
  simp at h1; simp [h1, qa]
 ·simp
def sysE (right : NQ) (k : Nat) (a b : Nat) : Nat := if b = k then right.getD a 0 else 0
def sysF (F : FD) (l : NQ) (d : Nat) (right : NQ) (j i a b : Nat) : Nat := if b = l.length then right.getD a 0 else if b < j ∨ (b = j ∧ a < i) then Be F (l.getD b 0) d a else 0
theorem lO (right : NQ) (k n a : Nat) : (List.replicate n 0).set k (right.getD a 0) = (List.range n).map fun b => sysE right k a b := by
 refine Tq (by simp) fun b h1 h2 => ?_
 rw [qch]
 simp only [List.getElem_replicate, qcu, qcj, sysE]
 by_cases e : k = b
 ·rw [if_pos e, if_pos e.symm]
 ·rw [if_neg e, if_neg (fun h => e h.symm)]
theorem Zy (w : WQ) (b : Nat) (F : FD) (hG : GFat w b F) (A B : OQ) (n c cB : Nat) (l right : NQ) (hl : RdN w A n c l) (hle : Els F l) (hn : n <= 8) (d : Nat) (hd0 : 0 < d) (hd9 : d <= 8) (hN : (F.m + 1) / d = n) (hr : RdN w B n cB right) :
  cQ 281 #[pQ b, .slice A n c, nQ d, .slice B n cB] w (RetG n (sysL F l d right) w) := by
 obtain ⟨i0, d3, p3, q3, r3⟩ := info_parts Bj
 obtain ⟨i1, hj, m3, n3, o3⟩ := info_parts Eg
 have t0 := hG.ok
 have hq := t0.q256
 have s3 := sK hl.len
 have t3 := sK hr.len
 have a2 : Hid (∀ wx, From w wx -> ∀ j, j < n -> cQ 114 #[pQ b, iv (l.getD j 0), nQ d] wx (RetN n (Bm F (l.getD j 0) d) wx)) := sK fun wx h9 j a0 => by
  have := Lm wx b F (hG.below h9) (l.getD j 0) (hle _ (Ap (by rw [hl.len]; exact a0) _)) d hd0 hd9
  rwa [hN] at this
 have c2 : Hid (∀ j i, i < n -> (Bm F (l.getD j 0) d).getD i 0 = Be F (l.getD j 0) d i) := sK fun j i hi => Rt F _ d (by omega)
 have y1 : Hid (∀ j i, j < n -> Be F (l.getD j 0) d i < 1000000) := sK fun j i a0 => by
  have := Ed (d := d) t0 (hle _ (Ap (by rw [hl.len]; exact a0) 0)) i; omega
 have m2 : Hid (∀ i, right.getD i 0 < 1000000) := sK fun i => hr.sm.at i
 have HL := sK hl
 have HR := sK hr
 have d4 := hl.cap
 have g3 := hl.max
 have i3 := hr.max
 have f4 := hr.cap
 unfold maxLen at g3 i3
 have x0 := sK (oP F l d right)
 rw [hl.len, hr.len] at x0
 have n2 : Hid (fnR (sysE right n) n (n + 1) = fnR (sysF F l d right 0 0) n (n + 1)) := sK (Jk fun a b _ _ => by
  unfold sysE sysF; rw [hl.len]
  by_cases e : b = n
  ·rw [if_pos e, if_pos e]
  ·rw [if_neg e, if_neg e, if_neg (by omega)])
 have r2 : Hid (fnR (sysF F l d right n 0) n (n + 1) = fnR (fun a b => if b < n then Be F (l.getD b 0) d a else right.getD a 0) n (n + 1)) := sK (Jk fun a b _ hb => by
  unfold sysF; rw [hl.len]
  by_cases e : b = n
  ·rw [if_pos e, if_neg (by omega)]
  ·rw [if_neg e, if_pos (.inl (by omega)), if_pos (by omega)])
 have p2 : Hid (∀ j, j < n -> fnR (sysF F l d right j n) n (n + 1) = fnR (sysF F l d right (j + 1) 0) n (n + 1)) := sK fun j hj => Jk fun a b ha _ => by
  unfold sysF; rw [hl.len]
  by_cases e : b = n
  ·rw [if_pos e, if_pos e]
  ·rw [if_neg e, if_neg e]
   by_cases e2 : b < j + 1
   ·rw [if_pos (by omega), if_pos (by omega)]
   ·rw [if_neg (by omega), if_neg (by omega)]
 have o2 : Hid (∀ j i, j < n -> i < n -> (fnR (sysF F l d right j i) n (n + 1)).set i (((fnR (sysF F l d right j i) n (n + 1)).getD i []).set j (Be F (l.getD j 0) d i)) = fnR (sysF F l d right j (i + 1)) n (n + 1)) := sK fun j i hj hi => by
  rw [oG _ hi]; refine Jk fun a b ha _ => ?_
  unfold sysF; rw [hl.len]
  by_cases e1 : a = i ∧ b = j
  ·obtain ⟨rfl, rfl⟩ := e1
   rw [if_pos ⟨rfl, rfl⟩, if_neg (by omega), if_pos (by omega)]
  ·rw [if_neg e1]
   by_cases e : b = n
   ·rw [if_pos e, if_pos e]
   ·rw [if_neg e, if_neg e]
    by_cases e2 : b < j ∨ b = j ∧ a < i
    ·rw [if_pos e2, if_pos (by omega)]
    ·rw [if_neg e2, if_neg (by omega)]
 unfold RetG RetN at *
 unfold iv at *
 clear hG t0 hle hl hr hN
 go_enter Tryz.func281, Tryz.ntmps281
 go_wp2_with (at_make; refine Ds rfl _ _ _ 22 rfl i1 (eQ) 24 Tryz.underlying25 hj m3 n3 o3 rfl _ _ n rfl rfl (by omega) (by omega) ?_; intro w1 l1 c1 k3)
 have z0 : Az w1 w.heap.size w.heap.size n n (List.replicate n (eQ)) (fnR (sysE right n) 0 (n + 1) ++ List.replicate (n - 0) []) := by
  have e0 : fnR (sysE right n) 0 (n + 1) ++ List.replicate (n - 0) [] = List.replicate n ([] : NQ) := by simp [fnR]
  rw [e0]; refine ⟨⟨l1, by simp, fun i hi => ⟨0, ?_⟩, fun i hi b hb => ?_⟩, fun r hr => by rw [(qav.1 hr).2]; exact Sm.nil⟩
  ·rw [Bu]
   have e1 : (List.replicate n (Value.slice none 0 0)).getD i undef = eQ := by simp [qa, hi]
   have e2 : (List.replicate n ([] : NQ)).getD i [] = [] := by simp [qa, hi]
   rw [e1, e2]; exact Rq _ _ _ _
  ·have e1 : (List.replicate n (Value.slice none 0 0)).getD i undef = eQ := by simp [qa, hi]
   rw [e1] at hb; cases hb
 have k1 : w.heap.size < w1.heap.size := by omega
 have d2 := sK z0
 have s1 := sK c1
 clear l1 k3 z0 c1
 go_loopw [20] (fun kv wr => ∃ (k : Nat) (vs : VQ), k <= n ∧ kv = nQ k ∧ Az wr w.heap.size w.heap.size n n vs (fnR (sysE right n) k (n + 1) ++ List.replicate (n - k) []) ∧ From w wr ∧ w.heap.size < wr.heap.size) (fun kv _ => n - (intOf kv).toNat)
 case atStart => exact ⟨0, _, qe _, rfl, d2.out, s1.out, k1⟩
 case round =>
  clear k1; obtain ⟨k, vs, hk, rfl, hG, hb, r0⟩ := hrel; obtain ⟨wo, rfl⟩ := xQ wr; have HG := sK hG; have HB := sK hb
  by_cases hkn : k < n
  ·have g1 := hG.slotFree k
   have o1 := hG.grid.slot hkn; clear hG hb; have f3 : (k : Int) < (n : Int) := by omega
   have k2 : Hid ((n : Int) + 1 = ((n + 1 : Nat) : Int)) := sK (by omega); go_upto_region 6 with (at_make; rw [k2.out]; refine Bd rfl _ _ _ rfl i0 Tryz.underlying22 d3 p3 q3 r3 _ _ (n + 1) rfl rfl (by omega) ?_; intro w3 j3 g0 q4; have c3 : w3.frozen? ⟨w.heap.size, k, none⟩ = false := (g0.frozen (p := ⟨w.heap.size, k, none⟩) r0).trans g1; have l3 := (g0.cell (p := ⟨w.heap.size, k, none⟩) r0).trans o1; clear o1 g1)
   have c0 := (HG.below g0).put hkn (j3.mono HB.size) ⟨by omega, fun j hj _ e => by have := HG.blkLt hj e; omega⟩; have t1 := sK (Aa g0 HB.out); obtain ⟨W, hW⟩ := xQ (w3.setCell ⟨w.heap.size, k, none⟩ (.slice (sQ wo.heap.size) (n + 1) (n + 1))); rw [<- hW] at c0; have q0 : From w W := by rw [hW]; exact t1.setCell (p := ⟨w.heap.size, k, none⟩) (qb _) _
   rw [<- hW]; clear hW l3 c3; obtain ⟨bb, bo, u2, y3, _⟩ := HR.at hkn; subst u2; have r1 := m2 k; have q1 : vs.length = n := HG.grid.lenV; have d0 : (vs.set k (Value.slice (sQ wo.heap.size) (n + 1) (n + 1))).getD k undef = .slice (sQ wo.heap.size) (n + 1) (n + 1) := Cm _ _ _ (by omega); have a1 : ((fnR (sysE right n) k (n + 1) ++ List.replicate (n - k) []).set k (List.replicate (n + 1) 0)).set k ((((fnR (sysE right n) k (n + 1) ++ List.replicate (n - k) []).set k (List.replicate (n + 1) 0)).getD k []).set n (right.getD k 0)) = fnR (sysE right n) (k + 1) (n + 1) ++ List.replicate (n - (k + 1)) [] := by
    rw [Cm _ _ _ (by simp [Ta]; omega), List.set_set, Fd [] (by rw [Ta]) hkn, iR, lO]
   have b0 := fun (wx : WQ) (h9 : From W wx) => (c0.below h9).store hkn d0 n (x := right.getD k 0) r1
   rw [a1] at b0; have n0 := sK b0; have HC : Hid (∀ wx, From W wx -> wx.cell? ⟨w.heap.size, k, none⟩ = some (.slice (sQ wo.heap.size) (n + 1) (n + 1)) ∧ wx.cell? ⟨bb, bo + k, none⟩ = some (.int .i64 ((right.getD k 0 : Nat) : Int)) ∧ wx.frozen? ⟨wo.heap.size, n, none⟩ = false ∧ wx.cell? ⟨wo.heap.size, n, none⟩ = some (zQ)) := sK fun wx h9 => by
    have h8 := c0.below h9; have n1 : ((fnR (sysE right n) k (n + 1) ++ List.replicate (n - k) []).set k (List.replicate (n + 1) 0)).getD k [] = List.replicate (n + 1) 0 := Cm _ _ _ (by simp [Ta]; omega); obtain ⟨b1, d1, e1, _, _, _, e5⟩ := h8.row hkn (by rw [n1]; simp); rw [n1, List.length_replicate] at e1 e5; rw [d0] at e1; simp only [qm, qc, qd, and_true, true_and] at e1; obtain ⟨rfl, rfl⟩ := e1; refine ⟨by rw [h8.grid.slot hkn, d0], (HR.below (Aa h9 q0)).cellAt hkn, e5.free n, ?_⟩; have := e5.cell (k := n) (by omega); rw [this]; simp [qa]
   have r4 : wo.heap.size < W.heap.size := by
    have := (c0.blkLt hkn (b := wo.heap.size) (by rw [d0]; rfl)).2; exact this
   have x1 := sK q0; have v3 := sK q1; have s2 : Hid (w.heap.size <= wo.heap.size) := sK HB.size; clear b0 a1 c0 d0 q0 r1 q1; generalize right.getD k 0 = y at *; have v2 : From W W := From.refl W; have b4 : (k : Int) < (cB : Int) := by omega
   have p4 : (n : Int) < (n : Int) + 1 := by omega
   refine wpT 11 69 [.v (.slice (sQ w.heap.size) n n), .v (nQ k), .v (.pointer (some ⟨w.heap.size, k, none⟩)), .v (.slice (sQ wo.heap.size) (n + 1) (n + 1)), .v (.slice A n c), .v (nQ n), .v (.slice (some ⟨bb, bo, none⟩) n cB), .v (nQ k), .v (.pointer (some ⟨bb, bo + k, none⟩)), .v (nQ y), .v (.pointer (some ⟨wo.heap.size, n, none⟩))] W (by kernel_rfl) (by kernel_rfl) (by kernel_rfl) rfl (From.drew v2) ?_; simp only [Tk]
   iterate 11 (refine .z (fun wx hx _ hK => by first | (go_simp; exact Kz hK) | (obtain ⟨x2, y2, _, _⟩ := HC wx hx; go_simp; exact Kz hK)) ?_; simp only [Pt])
   refine .nil fun w5 h0 _ => ?_
   obtain ⟨x2, y2, z3, a4⟩ := HC w5 h0; go_wp2; go_roundw
   case rel =>
    refine ⟨k + 1, _, by omega, by go_num, n0 w5 h0, ?_, by have := h0.size; simp [World.setCell]; omega⟩; exact (Aa h0 x1.out).setCell (p := ⟨wo.heap.size, n, none⟩) s2 _
   case measure => simp [intOf]; omega
  ·obtain rfl : k = n := by omega
   rw [qaa, qao, qas, n2.out] at hG; have f2 := sK hG; have l0 := sK hb; clear hG hb; go_wp2
   go_loopw [44] (fun kv wr => ∃ (j : Nat) (vs : VQ), j <= k ∧ kv = nQ j ∧ Az wr w.heap.size w.heap.size k k vs (fnR (sysF F l d right j 0) k (k + 1)) ∧ From w wr) (fun kv _ => k - (intOf kv).toNat)
   case atStart => exact ⟨0, vs, qe _, rfl, f2.out, l0.out⟩
   case round =>
    clear r0; obtain ⟨j, j0, j4, rfl, hG, hb⟩ := hrel; obtain ⟨w8, rfl⟩ := xQ wr; have m0 := sK hG; have f0 := sK hb; clear hG hb
    by_cases a0 : j < k
    ·have o4 : (j : Int) < (k : Int) := by omega
     obtain ⟨ab, ao, t2, x3, w2⟩ := (HL.below f0.out).at a0; subst t2; have c4 : (j : Int) < (c : Int) := by omega
     have H8 := sK (a2 w8 f0 j a0); have u3 : Hid (l.getD j 0 < 1000000) := sK (HL.sm.at j); generalize hX : l.getD j 0 = x at *; have HX := sK hX; clear hX; go_wp2_with (go_at_call 114; refine H8.mono ?_; rintro e w5 ⟨E, ce, rfl, ho, o0⟩); have g2 := sK (m0.below o0); have u1 := sK (Aa o0 f0.out); have l2 := sK ho; clear ho o0 w2; have v1 : Hid (∀ i b, i < k -> (j0.getD i undef).ownBlock = some b -> b < w8.heap.size) := sK fun i b hi e => (m0.blkLt hi e).2
     go_loopw [54] (fun kv wr => ∃ (i : Nat), i <= k ∧ kv = nQ i ∧ Az wr w.heap.size w.heap.size k k j0 (fnR (sysF F l d right j i) k (k + 1)) ∧ From w wr ∧ OwnN wr w8.heap.size E k ce (Bm F x d)) (fun kv _ => k - (intOf kv).toNat)
     case atStart => exact ⟨0, qe _, rfl, g2.out, u1.out, l2.out⟩
     case round =>
      obtain ⟨i, i4, rfl, hG, hb, hE⟩ := hrel
      by_cases hin : i < k
      ·have f3 : (i : Int) < (k : Int) := by omega
       have m1 : ((fnR (sysF F l d right j i) k (k + 1)).getD i []).length = k + 1 := by rw [cU _ _ hin]; simp
       obtain ⟨b1, d1, e1, e2, e3, e4, e5⟩ := hG.row hin (by omega); rw [m1] at e1 e2 e5; obtain ⟨eb, eo, rfl, g4, a3⟩ := hE.rd.at hin; have z2 := e5.le; unfold maxLen at z2; have k4 := e5.cell (k := j) (by omega); have l4 := e5.free j; have w0 := c2 j i hin; rw [HX.out] at w0; rw [w0] at a3; have f1 := y1 j i a0; rw [HX.out] at f1; have b0 := hG.store hin e1 j f1; have v0 := o2 j i a0 hin; rw [HX.out] at v0; rw [v0] at b0; have n0 := sK b0; have j1 := Ad wr b1 j (.int .i64 ((Be F x d i : Nat) : Int)); have y0 := hE.kept j1 (fun g hg e => by
        have h1 := v1 i b1 hin (by rw [e1]; rfl)
        rcases hE.form with ⟨h2, _⟩ | ⟨g9, h2, h3, _⟩
        ·rw [hg] at h2; cases h2
        ·rw [hg] at h2
         simp only [qc, qd, and_true] at h2 e; omega)
       have z1 := sK y0; have l0 : Hid (From w (wr.setCell ⟨b1, j, none⟩ (.int .i64 ((Be F x d i : Nat) : Int)))) := sK (hb.setCell (p := ⟨b1, j, none⟩) e3 _); have m4 : (j : Int) < (d1 : Int) := by omega
       have n4 : (j : Int) < (k : Int) + 1 := by omega
       clear b0 y0 hG hb hE v0 w0 e5 j1 e1 m1; generalize Be F x d i = y at *; go_wp2; go_roundw
       case rel => exact ⟨i + 1, by omega, by go_num, n0.out, l0.out, z1.out⟩
       case measure => simp [intOf]; omega
      ·obtain rfl : i = k := by omega
       rw [p2 j a0] at hG; have j2 := sK hG; clear hG; go_wp2; go_roundw
       case rel => exact ⟨j + 1, j0, by omega, by go_num, j2.out, hb⟩
       case measure => simp [intOf]; omega
    ·obtain rfl : j = k := by omega
     have hG := m0.out; rw [r2.out, <- x0.out] at hG; have i2 := sK hG; clear hG; go_wp2; go_ret; exact ⟨j0, rfl, i2.out, f0.out⟩
end Go.Proofs.YtoalkldfhkabnaaGreatDoor
