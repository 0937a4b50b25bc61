/- Part of WholeTraces. -/
import Derived.Test.YtoalkldfhkabnaaGreatDoorW00
import Derived.Test.YtoalkldfhkabnaaGreatDoorW13
set_option linter.all false
set_option maxRecDepth 10000
set_option maxHeartbeats 16000000
namespace Go.Proofs.YtoalkldfhkabnaaGreatDoor
section
namespace Fq
theorem Ck {p m lo n : Nat} (h : chk p m lo n = true) {v : Nat} (h1 : lo <= v) (h2 : v < lo + n) (hi : irrB (digs p (m + 1) v) p = true) : Si p m v (p ^ (m + 1)) = true := by
 unfold chk at h
 rw [Jb, qad] at h
 have := h (v - lo) (Wq.2 (by omega))
 rw [show lo + (v - lo) = v by omega, hi] at this
 simpa using this
theorem pT {p m : Nat} (h2 : 2 <= p) (hm : m ≠ 0) (hp : ∀ d, 2 <= d -> d < p -> p % d ≠ 0) (hq : p ^ (m + 1) <= 256) {v : Nat} (hv : v < p ^ (m + 1)) (hi : irrB (digs p (m + 1) v) p = true) : Si p m v (p ^ (m + 1)) = true ∧ Sf (p ^ (m + 1) - 1) = true := by
 have a1 : p ^ 2 <= p ^ (m + 1) := qy (by omega) (by omega)
 have a2 : p <= 16 := by
  by_cases e : p <= 16
  ·exact e
  ·have : 17 ^ 2 <= p ^ 2 := qbi (by omega) 2
   omega
 have a3 : 2 ^ (m + 1) <= p ^ (m + 1) := qbi h2 _
 have a4 : m <= 7 := by
  by_cases e : m <= 7
  ·exact e
  ·have : 2 ^ 9 <= 2 ^ (m + 1) := qy (by omega) (by omega)
   omega
 have a0 := sF
 rw [qad] at a0
 have np : ∀ d, 2 <= d -> d < p -> p % d ≠ 0 := hp
 have c2 : p % 2 ≠ 0 ∨ p = 2 := by
  by_cases e : p = 2
  ·exact .inr e
  ·exact .inl (hp 2 (by omega) (by omega))
 have c3 : p % 3 ≠ 0 ∨ p <= 3 := by
  by_cases e : p <= 3
  ·exact .inr e
  ·exact .inl (hp 3 (by omega) (by omega))
 have t0 : p = 2 ∨ p = 3 ∨ p = 5 ∨ p = 7 ∨ p = 11 ∨ p = 13 := by omega
 have c0 : m = 1 ∨ m = 2 ∨ m = 3 ∨ m = 4 ∨ m = 5 ∨ m = 6 ∨ m = 7 := by omega
 clear a1 a2 a3 a4 np c2 c3
 rcases t0 with rfl | rfl | rfl | rfl | rfl | rfl
 ·rcases c0 with rfl | rfl | rfl | rfl | rfl | rfl | rfl
  ·refine ⟨?_, a0 4 (by simp)⟩
   have b0 : v < 4 := hv; exact Ck gR (qe _) (by omega) hi
  ·refine ⟨?_, a0 8 (by simp)⟩
   have b0 : v < 8 := hv; exact Ck eM (qe _) (by omega) hi
  ·refine ⟨?_, a0 16 (by simp)⟩
   have b0 : v < 16 := hv; exact Ck fP (qe _) (by omega) hi
  ·refine ⟨?_, a0 32 (by simp)⟩
   have b0 : v < 32 := hv; exact Ck fB (qe _) (by omega) hi
  ·refine ⟨?_, a0 64 (by simp)⟩
   have b0 : v < 64 := hv; exact Ck eV (qe _) (by omega) hi
  ·refine ⟨?_, a0 128 (by simp)⟩
   have b0 : v < 128 := hv
   by_cases e0 : v < 64
   ·exact Ck gC (by omega) (by omega) hi
   exact Ck fQ (by omega) (by omega) hi
  ·refine ⟨?_, a0 256 (by simp)⟩
   have b0 : v < 256 := hv
   by_cases e0 : v < 32
   ·exact Ck fN (by omega) (by omega) hi
   by_cases e32 : v < 64
   ·exact Ck gG (by omega) (by omega) hi
   by_cases e64 : v < 96
   ·exact Ck fL (by omega) (by omega) hi
   by_cases e96 : v < 128
   ·exact Ck gF (by omega) (by omega) hi
   by_cases e128 : v < 160
   ·exact Ck dW (by omega) (by omega) hi
   by_cases e160 : v < 192
   ·exact Ck eH (by omega) (by omega) hi
   by_cases e192 : v < 224
   ·exact Ck iA (by omega) (by omega) hi
   exact Ck fM (by omega) (by omega) hi
 ·rcases c0 with rfl | rfl | rfl | rfl | rfl | rfl | rfl
  ·refine ⟨?_, a0 9 (by simp)⟩
   have b0 : v < 9 := hv; exact Ck fU (qe _) (by omega) hi
  ·refine ⟨?_, a0 27 (by simp)⟩
   have b0 : v < 27 := hv; exact Ck eD (qe _) (by omega) hi
  ·refine ⟨?_, a0 81 (by simp)⟩
   have b0 : v < 81 := hv; exact Ck gZ (qe _) (by omega) hi
  ·refine ⟨?_, a0 243 (by simp)⟩
   have b0 : v < 243 := hv
   by_cases e0 : v < 81
   ·exact Ck fA (by omega) (by omega) hi
   by_cases e81 : v < 162
   ·exact Ck dR (by omega) (by omega) hi
   exact Ck gU (by omega) (by omega) hi
  ·exact absurd hq (by decide)
  ·exact absurd hq (by decide)
  ·exact absurd hq (by decide)
 ·rcases c0 with rfl | rfl | rfl | rfl | rfl | rfl | rfl
  ·refine ⟨?_, a0 25 (by simp)⟩
   have b0 : v < 25 := hv; exact Ck gP (qe _) (by omega) hi
  ·refine ⟨?_, a0 125 (by simp)⟩
   have b0 : v < 125 := hv; exact Ck gJ (qe _) (by omega) hi
  ·exact absurd hq (by decide)
  ·exact absurd hq (by decide)
  ·exact absurd hq (by decide)
  ·exact absurd hq (by decide)
  ·exact absurd hq (by decide)
 ·rcases c0 with rfl | rfl | rfl | rfl | rfl | rfl | rfl
  ·refine ⟨?_, a0 49 (by simp)⟩
   have b0 : v < 49 := hv; exact Ck eX (qe _) (by omega) hi
  ·exact absurd hq (by decide)
  ·exact absurd hq (by decide)
  ·exact absurd hq (by decide)
  ·exact absurd hq (by decide)
  ·exact absurd hq (by decide)
  ·exact absurd hq (by decide)
 ·rcases c0 with rfl | rfl | rfl | rfl | rfl | rfl | rfl
  ·refine ⟨?_, a0 121 (by simp)⟩
   have b0 : v < 121 := hv; exact Ck Zi (qe _) (by omega) hi
  ·exact absurd hq (by decide)
  ·exact absurd hq (by decide)
  ·exact absurd hq (by decide)
  ·exact absurd hq (by decide)
  ·exact absurd hq (by decide)
  ·exact absurd hq (by decide)
 ·rcases c0 with rfl | rfl | rfl | rfl | rfl | rfl | rfl
  ·refine ⟨?_, a0 169 (by simp)⟩
   have b0 : v < 169 := hv
   by_cases e0 : v < 85
   ·exact Ck Zo (by omega) (by omega) hi
   exact Ck Ys (by omega) (by omega) hi
  ·exact absurd hq (by decide)
  ·exact absurd hq (by decide)
  ·exact absurd hq (by decide)
  ·exact absurd hq (by decide)
  ·exact absurd hq (by decide)
  ·exact absurd hq (by decide)
theorem Ot {Q : Nat -> Prop} : ∀ n, Q n -> ∃ x, Q x ∧ ∀ y, y < x -> ¬ Q y := by
 intro n
 induction n using Nat.strongRecOn with
 | _ n ih =>
  intro hn
  by_cases e : ∃ y, y < n ∧ Q y
  ·obtain ⟨y, hy, hq⟩ := e
   exact ih y hy hq
  ·exact ⟨n, hn, fun y hy hq => e ⟨y, hy, hq⟩⟩
theorem Oa {F : FD} (hp : 1 < F.p) {a : Nat} (ha : a < F.q) : ∀ i j, F.pw a (i + j) = F.mul (F.pw a i) (F.pw a j) := by
 have pl : ∀ n, F.pw a n < F.q := fun n => by
  cases n with
  | zero => show 1 < F.p ^ (F.m + 1); exact qby (by omega) hp
  | succ n => exact Fq.mul_lt hp _ _
 intro i j
 induction j with
 | zero => exact (Fq.mul_one hp (pl i)).symm
 | succ j ih =>
  show F.mul (F.pw a (i + j)) a = F.mul (F.pw a i) (F.mul (F.pw a j) a); rw [ih]; exact Fq.mul_assoc hp (pl i) (pl j) ha
theorem Ss {F : FD} (hp : 1 < F.p) {a : Nat} (ha : a < F.q) (i : Nat) (h1 : F.pw a i = 1) : ∀ j, F.pw a (i * j) = 1
 | 0 => rfl
 | j + 1 => by
  have hq : 1 < F.q := qby (by omega) hp; rw [qco, Oa hp ha, Ss hp ha i h1 j, h1]; exact Fq.mul_one hp hq
theorem lI {F : FD} (hp : 1 < F.p) {x : Nat} (hx : x < F.q) {n : Nat} (hn : n < 256) (hm : Sf n = true) (hb : lW F.p F.m F.v n (mds n) x = true) : F.pw x n = 1 ∧ ∀ k, 0 < k -> k < n -> F.pw x k ≠ 1 := by
 have pe : ∀ e, e < 256 -> pwb F.p F.m F.v x 8 e = F.pw x e := fun e he => Yn (Oa hp hx) 8 e he
 unfold lW at hb
 rw [qca, beq_iff_eq, qad, pe n hn] at hb
 obtain ⟨h1, h2⟩ := hb
 refine ⟨h1, fun k g0 hk i0 => ?_⟩
 obtain ⟨o, ⟨r0, j0⟩, hl⟩ := Ot (Q := fun o => 0 < o ∧ F.pw x o = 1) k ⟨g0, i0⟩
 have z0 : o <= k := by
  by_cases e : o <= k
  ·exact e
  ·exact absurd ⟨g0, i0⟩ (hl k (by omega))
 have hz : n % o = 0 := by
  by_cases e : n % o = 0
  ·exact e
  ·have h3 := Oa hp hx (o * (n / o)) (n % o)
   have hq : 1 < F.q := qby (by omega) hp; have pl : F.pw x (n % o) < F.q := by
    obtain ⟨j, hj⟩ : ∃ j, n % o = j + 1 := ⟨n % o - 1, by omega⟩
    rw [hj]; exact Fq.mul_lt hp _ _
   rw [Nat.div_add_mod, h1, Ss hp hx o j0] at h3; have h4 : F.mul 1 (F.pw x (n % o)) = F.pw x (n % o) := Fq.one_mul hp pl; rw [h4] at h3; exact absurd ⟨by omega, h3.symm⟩ (hl (n % o) (qu _ r0))
 unfold Sf at hm
 rw [qad] at hm
 have h5 := hm o (Wq.2 (by omega))
 rw [hz] at h5
 have h6 : ((mds n).any fun e => e % o == 0) = true := by
  have : (o == 0) = false := by rw [beq_eq_false_iff_ne]; omega
  rw [this] at h5; simpa using h5
 obtain ⟨e, he, hd⟩ := List.any_eq_true.1 h6
 rw [beq_iff_eq] at hd
 have h7 := h2 e he
 have q0 : e < 256 := by
  obtain ⟨r, _, rfl⟩ := qz.1 he; exact Nat.lt_of_le_of_lt (qaf _ _) hn
 rw [pe e q0, bne_iff_ne] at h7
 apply h7
 rw [<- Nat.mul_div_cancel' (Vq hd)]
 exact Ss hp hx o j0 _
theorem Iw {p m v : Nat} (h2 : 2 <= p) (hp : ∀ d, 2 <= d -> d < p -> p % d ≠ 0) (hq : p ^ (m + 1) <= 256) (hv : v < p ^ (m + 1)) (hv0 : m = 0 -> v = 0) (hi : m ≠ 0 -> irrB (digs p (m + 1) v) p = true) : ∃ x, FD.Ok ⟨p, m, v, x⟩ := by
 have hx : Si p m v (p ^ (m + 1)) = true ∧ Sf (p ^ (m + 1) - 1) = true := by
  by_cases hm : m = 0
  ·subst hm
   rw [hv0 rfl]; have h0 := sC; rw [qad] at h0; have e : p ^ (0 + 1) = p := by simp
   rw [e] at hq ⊢; have h1 := h0 p (Wq.2 (by omega)); have e2 : decide (p < 2) = false := by simp; omega
   rw [e2, Bool.false_or] at h1; unfold chk0 at h1; have e3 : ((List.range p).any fun d => decide (2 <= d) && p % d == 0) = false := by
    rw [List.any_eq_false]; intro d hd; have o0 := Wq.1 hd
    by_cases e4 : 2 <= d
    ·have := hp d e4 o0
     simp [this]
    ·simp [e4]
   rw [e3, Bool.false_or, qca] at h1; exact ⟨h1.2, h1.1⟩
  ·exact pT h2 hm hp hq hv (hi hm)
 obtain ⟨hs, a0⟩ := hx
 unfold Si at hs
 obtain ⟨x, w0, hb⟩ := List.any_eq_true.1 hs
 have l0 := Wq.1 w0
 have f0 : 1 < p := by omega
 have b1 : 1 < p ^ (m + 1) := qby (by omega) f0
 have key := lI (F := ⟨p, m, v, 0⟩) f0 (x := x) l0 (n := p ^ (m + 1) - 1) (by omega) a0 hb
 obtain ⟨y, ⟨m0, x0, y0⟩, hl⟩ := Ot (Q := fun y => y < p ^ (m + 1) ∧ FD.pw ⟨p, m, v, 0⟩ y (p ^ (m + 1) - 1) = 1 ∧ ∀ k, 0 < k -> k < p ^ (m + 1) - 1 -> FD.pw ⟨p, m, v, 0⟩ y k ≠ 1) x ⟨l0, key.1, key.2⟩
 have d0 : ∀ a n, FD.pw ⟨p, m, v, y⟩ a n = FD.pw ⟨p, m, v, 0⟩ a n := fun a n => by
  induction n with
  | zero => rfl
  | succ n ih => show mul p m v (FD.pw ⟨p, m, v, y⟩ a n) a = mul p m v (FD.pw ⟨p, m, v, 0⟩ a n) a; rw [ih]
 exact ⟨y, {
  p2 := h2
  prime := hp
  q256 := hq
  v0 := hv0
  vq := hv
  xq := m0
  ord := by rw [d0]; exact x0
  ord' := fun k h0 hk => by rw [d0]; exact y0 k h0 hk
  first := fun z _ n0 hz => hl z n0 ⟨Nat.lt_trans n0 m0, by rw [<- d0]; exact hz.1, fun k h0 hk => by rw [<- d0]; exact hz.2 k h0 hk⟩ }⟩
end Fq
end
end Go.Proofs.YtoalkldfhkabnaaGreatDoor
