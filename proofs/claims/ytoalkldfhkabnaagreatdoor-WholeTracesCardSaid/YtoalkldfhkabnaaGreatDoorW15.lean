/- Part of WholeTraces. -/
import Derived.Test.YtoalkldfhkabnaaGreatDoorW00
import Derived.Test.YtoalkldfhkabnaaGreatDoorW14
set_option linter.all false
set_option maxRecDepth 10000
set_option maxHeartbeats 16000000
namespace Go.Proofs.YtoalkldfhkabnaaGreatDoor
section
namespace Fq
def sysL (F : FD) (l : NQ) (d : Nat) (right : NQ) : LQ := (List.range right.length).map fun i => (l.map fun z => Be F z d i) ++ [right.getD i 0]
def cP (F : FD) : Fld := { q := F.q, add := F.add, mul := F.mul, neg := F.neg, inv := fun a => if a < F.q then pwb F.p F.m F.v a 8 (F.q - 2) else F.pw a (F.q - 2) }
theorem mO {F : FD} (hp : 1 < F.p) (hq : F.q <= 256) : cP F = F.fld := by
 unfold cP FD.fld
 congr 1
 funext a
 split
 ·rename_i h
  exact Yn (Oa hp h) 8 _ (by omega)
 ·rfl
def Ov {α : Type} : NQ -> (NQ -> α) -> α
 | [], k => k []
 | a :: l, k => Sb a fun a' => Ov l fun l' => k (a' :: l')
theorem Ma {α : Type} : ∀ (l : NQ) (k : NQ -> α), Ov l k = k l
 | [], _ => rfl
 | a :: l, k => by rw [Ov, Jb, Ma l]
def Kj {α : Type} : LQ -> (LQ -> α) -> α
 | [], k => k []
 | a :: l, k => Ov a fun a' => Kj l fun l' => k (a' :: l')
theorem Jn {α : Type} : ∀ (l : LQ) (k : LQ -> α), Kj l k = k l
 | [], _ => rfl
 | a :: l, k => by rw [Kj, Ma, Jn l]
def clrF {α : Type} (F : Fld) (R : LQ) (a c : Nat) : Nat -> (LQ -> α) -> α
 | 0, k => k R
 | i + 1, k => clrF F R a c i fun S => if i = a then k S else Kj (S.set i (addRow F (S.getD i []) (F.neg (ent S i c)) (R.getD a []))) k
theorem dE {α : Type} (F : Fld) (R : LQ) (a c : Nat) : ∀ i (k : LQ -> α), clrF F R a c i k = k (clr F R a c i)
 | 0, _ => rfl
 | i + 1, k => by
  rw [clrF, dE F R a c i, Jn, clr]; split <;> rfl
def mP {α : Type} (F : Fld) (c : Nat) (S : LQ) (P : NQ) (k : LQ -> NQ -> α) : α :=
 Sb (fpiv S c (S.length - P.length) P.length) fun j => if j < S.length then Kj (Cf S P.length j) fun S1 => Kj (Cx F S1 P.length c) fun S2 => clrF F S2 P.length c S.length fun S3 => k S3 (P ++ [c]) else k S P
theorem oC {α : Type} (F : Fld) (c : Nat) (S : LQ) (P : NQ) (k : LQ -> NQ -> α) : mP F c S P k = k (Bg F c (S, P)).1 (Bg F c (S, P)).2 := by
 unfold mP Bg
 simp only [Jb, Jn, dE]
 split <;> rfl
def bJ {α : Type} (F : Fld) (R : LQ) : Nat -> (LQ -> NQ -> α) -> α
 | 0, k => k R []
 | c + 1, k => bJ F R c fun S P => mP F c S P k
theorem Ui {α : Type} (F : Fld) (R : LQ) : ∀ c (k : LQ -> NQ -> α), bJ F R c k = k (elim F R c).1 (elim F R c).2
 | 0, _ => rfl
 | c + 1, k => by rw [bJ, Ui F R c, oC]; rfl
def Hm (F : FD) (f : Fld) (x d : Nat) : Bool := (elim f (sysL F (Bm F x d) d (Bm F 0 d)) ((F.m + 1) / d)).2.length == (F.m + 1) / d
def nB (F : FD) (f : Fld) (x d : Nat) : Bool := Ov (Bm F x d) fun l => Kj (sysL F l d (Bm F 0 d)) fun R => bJ f R ((F.m + 1) / d) fun _ P => P.length == (F.m + 1) / d
theorem nX (F : FD) (f : Fld) (x d : Nat) : nB F f x d = Hm F f x d := by
 unfold nB Hm
 rw [Ma, Jn, Ui]
def chkN (F : FD) (d x : Nat) : Bool := nB F (cP F) x d
def chkI (F : FD) : Bool := irrB (digs F.p (F.m + 1) F.v) F.p
set_option maxRecDepth 100000
theorem nC : chkI ⟨2, 1, 3, 0⟩ = true := by decide +kernel
theorem Xn : chkN ⟨2, 1, 3, 0⟩ 1 2 = true := by decide +kernel
theorem lF : chkI ⟨2, 2, 3, 0⟩ = true := by decide +kernel
theorem Xt : chkN ⟨2, 2, 3, 0⟩ 1 3 = true := by decide +kernel
theorem jB : chkI ⟨2, 3, 3, 0⟩ = true := by decide +kernel
theorem Zn : chkN ⟨2, 3, 3, 0⟩ 1 8 = true := by decide +kernel
theorem Zv : chkN ⟨2, 3, 3, 0⟩ 2 2 = true := by decide +kernel
theorem mC : chkI ⟨2, 4, 5, 0⟩ = true := by decide +kernel
theorem Xk : chkN ⟨2, 4, 5, 0⟩ 1 3 = true := by decide +kernel
theorem nY : chkI ⟨2, 5, 3, 0⟩ = true := by decide +kernel
theorem aG : chkN ⟨2, 5, 3, 0⟩ 1 32 = true := by decide +kernel
theorem Zu : chkN ⟨2, 5, 3, 0⟩ 2 2 = true := by decide +kernel
theorem aT : chkN ⟨2, 5, 3, 0⟩ 3 2 = true := by decide +kernel
theorem lG : chkI ⟨2, 6, 3, 0⟩ = true := by decide +kernel
theorem aI : chkN ⟨2, 6, 3, 0⟩ 1 9 = true := by decide +kernel
theorem jS : chkI ⟨2, 7, 27, 0⟩ = true := by decide +kernel
theorem aX : chkN ⟨2, 7, 27, 0⟩ 1 32 = true := by decide +kernel
theorem Yv : chkN ⟨2, 7, 27, 0⟩ 2 2 = true := by decide +kernel
theorem Yi : chkN ⟨2, 7, 27, 0⟩ 4 2 = true := by decide +kernel
theorem jT : chkI ⟨3, 1, 1, 0⟩ = true := by decide +kernel
theorem Zp : chkN ⟨3, 1, 1, 0⟩ 1 4 = true := by decide +kernel
theorem nG : chkI ⟨3, 2, 7, 0⟩ = true := by decide +kernel
theorem aN : chkN ⟨3, 2, 7, 0⟩ 1 9 = true := by decide +kernel
theorem iI : chkI ⟨3, 3, 5, 0⟩ = true := by decide +kernel
theorem Yz : chkN ⟨3, 3, 5, 0⟩ 1 4 = true := by decide +kernel
theorem Yx : chkN ⟨3, 3, 5, 0⟩ 2 3 = true := by decide +kernel
theorem mN : chkI ⟨3, 4, 7, 0⟩ = true := by decide +kernel
theorem Xx : chkN ⟨3, 4, 7, 0⟩ 1 4 = true := by decide +kernel
theorem kX : chkI ⟨5, 1, 2, 0⟩ = true := by decide +kernel
theorem Ym : chkN ⟨5, 1, 2, 0⟩ 1 6 = true := by decide +kernel
theorem iV : chkI ⟨5, 2, 6, 0⟩ = true := by decide +kernel
theorem Yj : chkN ⟨5, 2, 6, 0⟩ 1 6 = true := by decide +kernel
theorem lT : chkI ⟨7, 1, 1, 0⟩ = true := by decide +kernel
theorem Zc : chkN ⟨7, 1, 1, 0⟩ 1 8 = true := by decide +kernel
theorem dV : chkI ⟨11, 1, 1, 0⟩ = true := by decide +kernel
theorem Xg : chkN ⟨11, 1, 1, 0⟩ 1 12 = true := by decide +kernel
theorem gD : chkI ⟨13, 1, 2, 0⟩ = true := by decide +kernel
theorem Wo : chkN ⟨13, 1, 2, 0⟩ 1 14 = true := by decide +kernel
end Fq
end
end Go.Proofs.YtoalkldfhkabnaaGreatDoor
