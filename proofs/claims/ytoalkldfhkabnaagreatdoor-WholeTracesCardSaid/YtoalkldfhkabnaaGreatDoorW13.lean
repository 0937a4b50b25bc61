/- Part of WholeTraces. -/
import Derived.Test.YtoalkldfhkabnaaGreatDoorW00
import Derived.Test.YtoalkldfhkabnaaGreatDoorW12
set_option linter.all false
set_option maxRecDepth 10000
set_option maxHeartbeats 16000000
namespace Go.Proofs.YtoalkldfhkabnaaGreatDoor
section
namespace Fq
def Sb {α : Type} (n : Nat) (k : Nat -> α) : α := Nat.rec (k 0) (fun m _ => k (m + 1)) n
theorem Jb {α : Type} (n : Nat) (k : Nat -> α) : Sb n k = k n := by cases n <;> rfl
def pwb (p m v a : Nat) : Nat -> Nat -> Nat
 | 0, _ => 1
 | f + 1, n => Sb (pwb p m v a f (n / 2)) fun s => Sb (mul p m v s s) fun t => if n % 2 = 0 then t else mul p m v t a
theorem Yn {F : FD} {a : Nat} (pa : ∀ i j, F.pw a (i + j) = F.mul (F.pw a i) (F.pw a j)) : ∀ f n, n < 2 ^ f -> pwb F.p F.m F.v a f n = F.pw a n
 | 0, n, hn => by simp at hn; subst hn; rfl
 | f + 1, n, hn => by
  have h1 : n / 2 < 2 ^ f := by rw [qr] at hn; omega
  rw [pwb, Jb, Jb, Yn pa f _ h1]; have e2 : mul F.p F.m F.v (F.pw a (n / 2)) (F.pw a (n / 2)) = F.pw a (n / 2 + n / 2) := (pa _ _).symm; rw [e2]; split
  ·congr 1; omega
  ·show F.pw a (n / 2 + n / 2 + 1) = _
   congr 1; omega
def mds (n : Nat) : NQ := (([2, 3, 5, 7, 11, 13, 17, 19, 23, 29, 31, 37, 41, 43, 47, 53, 59, 61, 67, 71, 73, 79, 83, 89, 97, 101, 103, 107, 109, 113, 127].filter fun r => n % r == 0).map fun r => n / r)
def lW (p m v : Nat) (n : Nat) (ds : NQ) (x : Nat) : Bool := pwb p m v x 8 n == 1 && ds.all fun e => pwb p m v x 8 e != 1
def dvJ (p c : Nat) (low : NQ) (base : Nat) (r : NQ) : Nat -> NQ
 | 0 => r
 | j + 1 => (dvJ p c low base r j).set (base + j) (((dvJ p c low base r j).getD (base + j) 0 + (p - c) * low.getD j 0) % p)
def dvI (p : Nat) (low : NQ) (n : Nat) (r : NQ) : Nat -> NQ
 | 0 => r
 | k + 1 => (dvJ p ((dvI p low n r k).getD (n - k) 0) low (n - k - low.length) (dvI p low n r k) low.length).set (n - k) 0
def divB (low mod : NQ) (p : Nat) : Bool := (dvI p low mod.length (mod ++ [1]) (mod.length + 1 - low.length)).all (· == 0)
def qL (mod : NQ) (p d : Nat) : Bool := (List.range (p ^ d)).all fun v => !divB (digs p d v) mod p
def irrB (mod : NQ) (p : Nat) : Bool := (List.range mod.length).all fun d => mod.length < 2 * (d + 1) || qL mod p (d + 1)
def Sf (n : Nat) : Bool := (List.range n).all fun o => o == 0 || n % o != 0 || (mds n).any fun e => e % o == 0
def Si (p m v q : Nat) : Bool := (List.range q).any fun x => lW p m v (q - 1) (mds (q - 1)) x
def chk (p m lo n : Nat) : Bool := Sb (p ^ (m + 1)) fun q => (List.range n).all fun i => !irrB (digs p (m + 1) (lo + i)) p || Si p m (lo + i) q
def chk0 (p : Nat) : Bool := ((List.range p).any fun d => 2 <= d && p % d == 0) || (Sf (p - 1) && Si p 0 0 p)
set_option maxRecDepth 100000
theorem gR : chk 2 1 0 4 = true := by decide +kernel
theorem eM : chk 2 2 0 8 = true := by decide +kernel
theorem fP : chk 2 3 0 16 = true := by decide +kernel
theorem fB : chk 2 4 0 32 = true := by decide +kernel
theorem eV : chk 2 5 0 64 = true := by decide +kernel
theorem gC : chk 2 6 0 64 = true := by decide +kernel
theorem fQ : chk 2 6 64 64 = true := by decide +kernel
theorem fN : chk 2 7 0 32 = true := by decide +kernel
theorem gG : chk 2 7 32 32 = true := by decide +kernel
theorem fL : chk 2 7 64 32 = true := by decide +kernel
theorem gF : chk 2 7 96 32 = true := by decide +kernel
theorem dW : chk 2 7 128 32 = true := by decide +kernel
theorem eH : chk 2 7 160 32 = true := by decide +kernel
theorem iA : chk 2 7 192 32 = true := by decide +kernel
theorem fM : chk 2 7 224 32 = true := by decide +kernel
theorem fU : chk 3 1 0 9 = true := by decide +kernel
theorem eD : chk 3 2 0 27 = true := by decide +kernel
theorem gZ : chk 3 3 0 81 = true := by decide +kernel
theorem fA : chk 3 4 0 81 = true := by decide +kernel
theorem dR : chk 3 4 81 81 = true := by decide +kernel
theorem gU : chk 3 4 162 81 = true := by decide +kernel
theorem gP : chk 5 1 0 25 = true := by decide +kernel
theorem gJ : chk 5 2 0 125 = true := by decide +kernel
theorem eX : chk 7 1 0 49 = true := by decide +kernel
theorem Zi : chk 11 1 0 121 = true := by decide +kernel
theorem Zo : chk 13 1 0 85 = true := by decide +kernel
theorem Ys : chk 13 1 85 84 = true := by decide +kernel
theorem sC : ((List.range 257).all fun p => p < 2 || chk0 p) = true := by decide +kernel
theorem sF : ([4, 8, 16, 32, 64, 128, 256, 9, 27, 81, 243, 25, 125, 49, 121, 169].all fun q => Sf (q - 1)) = true := by decide +kernel
end Fq
end
end Go.Proofs.YtoalkldfhkabnaaGreatDoor
