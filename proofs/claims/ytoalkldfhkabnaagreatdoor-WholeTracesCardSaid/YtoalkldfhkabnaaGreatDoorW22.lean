/- Part of WholeTraces. -/
import Derived.Test.YtoalkldfhkabnaaGreatDoorW00
import Derived.Test.YtoalkldfhkabnaaGreatDoorW10
import Derived.Test.YtoalkldfhkabnaaGreatDoorW14
import Derived.Test.YtoalkldfhkabnaaGreatDoorW21
set_option linter.all false
set_option maxRecDepth 10000
set_option maxHeartbeats 16000000
namespace Go.Proofs.YtoalkldfhkabnaaGreatDoor
open Go.RowKit Fq
def ordI (P M : Int) : Nat := if 2 <= P ∧ 1 <= M ∧ M <= 8 ∧ P.toNat ^ M.toNat <= 256 then P.toNat ^ M.toNat else 0
theorem nL {p m i : Nat} (hp : 2 <= p) (hi : i < m) (h : 256 / p < p ^ i) : ordI (p : Int) (m : Int) = 0 := by
 unfold ordI
 rw [if_neg]
 rintro ⟨_, _, _, h4⟩
 simp only [Int.toNat_natCast] at h4
 have h5 : p ^ (i + 1) <= p ^ m := qy (by omega) hi
 rw [qr] at h5
 have h6 : 256 < p ^ i * p := (qaq (by omega)).1 h
 omega
theorem cT {p m : Nat} (hp : 2 <= p) (hm : 1 <= m) (q0 : m <= 8) (h : p ^ m <= 256) : ordI (p : Int) (m : Int) = p ^ m := by
 unfold ordI
 rw [if_pos ⟨by omega, by omega, by omega, by simpa using h⟩]
 simp
theorem dA {F : FD} (h : F.Ok) : ordI (F.p : Int) ((F.m + 1 : Nat) : Int) = F.q := by
 have h1 := h.bd
 have h2 := h.q256
 exact cT (by omega) (by omega) (by omega) h2
theorem Kl (w : WQ) (P M : Int) (A : OQ) (n c : Nat) : cQ 20 #[.agg #[.int .i64 P, .int .i64 M, .slice A n c]] w (Ah (nQ (ordI P M)) w) := by
 by_cases hP : P < 2
 ·have e1 : ordI P M = 0 := by unfold ordI; rw [if_neg]; omega
  rw [e1]; go_enter Tryz.func20, Tryz.ntmps20; go_wp2; go_ret; exact ⟨rfl, Ac _ _⟩
 by_cases hM : M < 1
 ·have e1 : ordI P M = 0 := by unfold ordI; rw [if_neg]; omega
  rw [e1]; go_enter Tryz.func20, Tryz.ntmps20; go_wp2; go_ret; exact ⟨rfl, Ac _ _⟩
 by_cases hM8 : 8 < M
 ·have e1 : ordI P M = 0 := by unfold ordI; rw [if_neg]; omega
  rw [e1]; go_enter Tryz.func20, Tryz.ntmps20; go_wp2; go_ret; exact ⟨rfl, Ac _ _⟩
 obtain ⟨p, rfl⟩ : ∃ p : Nat, P = (p : Int) := ⟨P.toNat, by omega⟩
 obtain ⟨m, rfl⟩ : ∃ m : Nat, M = (m : Int) := ⟨M.toNat, by omega⟩
 have t0 : 2 <= p := by omega
 have z0 : 1 <= m := by omega
 have q0 : m <= 8 := by omega
 go_enter Tryz.func20, Tryz.ntmps20
 go_upto_region 3 with fail
 obtain ⟨W, hW, l1, l0, b0⟩ := mk1 w #[nQ p, nQ m, .slice A n c] 24
 rw [hW]
 clear hW
 have c0 : W.cell? ⟨w.heap.size, 0, none⟩ = some (nQ p) := b0.c0
 have c1 : W.cell? ⟨w.heap.size, 1, none⟩ = some (nQ m) := b0.c1
 have j0 := sK l0
 clear b0 l0
 go_upto_region 5 with fail
 go_loopw [3, 4] (fun qv f0 wr => ∃ i : Nat, i <= m ∧ f0 = nQ i ∧ qv = .int .i64 ((p ^ i : Nat) : Int) ∧ p ^ i <= 256 ∧ wr = W) (fun _ f0 _ => m - (intOf f0).toNat)
 case atStart => exact ⟨0, qe _, rfl, by simp, by simp, rfl⟩
 case round =>
  obtain ⟨i, hi, rfl, rfl, hq, rfl⟩ := hrel
  by_cases n0 : i < m
  ·by_cases hbig : 256 / p < p ^ i
   ·have e1 := nL t0 n0 hbig
    rw [e1]; have e2 : (256 : Int) / (p : Int) = ((256 / p : Nat) : Int) := (Int.natCast_ediv 256 p).symm; clear e1; generalize 256 / p = d at *; generalize p ^ i = q at *; go_wp2; go_ret; exact ⟨rfl, j0.out⟩
   ·have e2 : (256 : Int) / (p : Int) = ((256 / p : Nat) : Int) := (Int.natCast_ediv 256 p).symm
    have h6 : p ^ (i + 1) <= 256 := by
     have h7 := (Nat.le_div_iff_mul_le (show 0 < p by omega)).1 (Nat.le_of_not_lt hbig); rw [qr]; exact h7
    have e3 : ((p ^ i : Nat) : Int) * (p : Int) = ((p ^ (i + 1) : Nat) : Int) := by rw [qr, Yq]
    obtain ⟨q', d0⟩ : ∃ q', q' = p ^ (i + 1) := ⟨_, rfl⟩
    have g0 := sK d0; rw [<- d0] at e3 h6; clear d0; generalize 256 / p = d at *; generalize p ^ i = q at *; go_wp2; go_roundw
    case rel => exact ⟨i + 1, by omega, by go_num, by rw [<- g0.out], by rw [<- g0.out]; exact h6, trivial⟩
    case measure => simp [intOf]; omega
  ·obtain rfl : i = m := by omega
   have HO := sK (cT t0 z0 q0 hq); generalize p ^ i = q at *; go_wp2; go_ret; exact ⟨by rw [HO.out]; rfl, j0.out⟩
def Kh (n : Nat) : Bool := (List.range n).all fun d => decide (d < 2) || n % d != 0
theorem Kn (n : Nat) : Kh n = true ↔ ∀ d, 2 <= d -> d < n -> n % d ≠ 0 := by
 unfold Kh
 rw [qad]
 constructor
 ·intro h d h1 h2
  have := h d (Wq.2 h2); simp only [qbe, decide_eq_true_eq, bne_iff_ne] at this
  rcases this with h3 | h3
  ·omega
  ·exact h3
 ·intro h d hd
  simp only [qbe, decide_eq_true_eq, bne_iff_ne]
  by_cases e : d < 2
  ·exact .inl e
  ·exact .inr (h d (by omega) (Wq.1 hd))
theorem Xo (w : WQ) (n : Nat) (hn : n <= 256) : cQ 21 #[nQ n] w (Ba (.bool (Kh n)) w) := by
 go_enter Tryz.func21, Tryz.ntmps21
 go_wp2
 go_loop [3] (fun dv => ∃ d : Nat, 2 <= d ∧ (d <= n ∨ d = 2) ∧ dv = nQ d ∧ ∀ k, 2 <= k -> k < d -> n % k ≠ 0) (fun dv => n - (intOf dv).toNat)
 case atStart => exact ⟨2, qb _, .inr rfl, rfl, fun k h1 h2 => by omega⟩
 case round =>
  obtain ⟨d, h2, hd, rfl, hk⟩ := hrel; have HK := sK hk; clear hk
  by_cases hdn : d < n
  ·have e1 : (n : Int) % (d : Int) = ((n % d : Nat) : Int) := (qcf _ _).symm
   have n1 : (2 : Int) <= (d : Int) := by omega
   by_cases h0 : n % d = 0
   ·have HF : Hid (Kh n = false) := sK (by
     cases h9 : Kh n with
     | false => rfl
     | true => exact absurd h0 ((Kn n).1 h9 d h2 hdn))
    rw [h0] at e1; clear h0; go_wp2; go_ret; exact ⟨by rw [HF.out]; rfl, rfl⟩
   ·have HN : Hid (∀ k, 2 <= k -> k < d + 1 -> n % k ≠ 0) := sK fun k h1 h3 => by
     by_cases e : k = d
     ·rw [e]; exact h0
     ·exact HK k h1 (by omega)
    have k1 : ((n % d : Nat) : Int) ≠ 0 := by omega
    clear h0; generalize n % d = r at *; go_wp2; go_round
    case rel => exact ⟨d + 1, by omega, by omega, by go_num, HN.out⟩
    case measure => simp [intOf]; omega
  ·have HT : Hid (Kh n = true) := sK (by
    exact (Kn n).2 fun k h1 h3 => HK k h1 (by omega))
   go_wp2; go_ret; exact ⟨by rw [HT.out]; rfl, rfl⟩
theorem Nj (w : WQ) (x p m : Nat) (hx : x < 1000000) (hp : 1 < p) (hp1 : p <= 256) (hm : m <= 1000) : cQ 50 #[iv x, iv p, nQ m] w (RetN m (digs p m x) w) := by
 obtain ⟨i0, hi, g1, i1, j1⟩ := info_parts Bj
 have b1 : 0 < p := by omega
 have q1 : 1 < (p : Int) := by omega
 unfold iv
 go_enter Tryz.func50, Tryz.ntmps50
 go_wp2_with (at_make; refine Bd rfl _ _ _ rfl i0 Tryz.underlying22 hi g1 i1 j1 _ _ m rfl rfl (by omega) ?_; intro w1 r0 m0 d1)
 have o0 : w.heap.size < w1.heap.size := by omega
 clear d1
 go_loopw [0, 8] (fun xv e0 wr => ∃ i y : Nat, i <= m ∧ e0 = nQ i ∧ xv = nQ y ∧ y <= x ∧ Hid (y = x / p ^ i) ∧ OwnN wr w.heap.size (sQ w.heap.size) m m (digs p i x ++ List.replicate (m - i) 0) ∧ Below w.heap.size w wr ∧ w.heap.size < wr.heap.size) (fun _ e0 _ => m - (intOf e0).toNat)
 case atStart => exact ⟨0, x, qe _, rfl, rfl, qb _, sK (by simp), by simpa [digs] using r0, m0, o0⟩
 case round =>
  clear r0 m0 o0; obtain ⟨i, y, n0, rfl, rfl, f1, HY, a0, hb, y0⟩ := hrel
  by_cases hi' : i < m
  ·have m1 := a0.cell hi'
   have o1 := a0.free i; have v0 := a0.set i (x := y % p) (by have := qu y b1; omega); rw [HY.out, Uu p x hi', <- HY.out] at v0; have w0 : Hid (y / p = x / p ^ (i + 1)) := sK (by rw [HY.out, qah, qr]); have x0 : y / p <= x := qs (qaf _ _) f1; have e1 : (y : Int) % (p : Int) = ((y % p : Nat) : Int) := (qcf _ _).symm; have e2 : (y : Int) / (p : Int) = ((y / p : Nat) : Int) := (Int.natCast_ediv _ _).symm; clear HY; generalize y % p = r at *; generalize y / p = y2 at *; go_wp2; go_roundw
   case rel => exact ⟨i + 1, y2, by omega, by go_num, by go_num, x0, w0, v0, hb.setCell (p := ⟨w.heap.size, i, none⟩) (qb _) _, by simpa [World.setCell] using y0⟩
   case measure => simp [intOf]; omega
  ·obtain rfl : i = m := by omega
   have a1 : OwnN wr w.heap.size (sQ w.heap.size) i i (digs p i x) := by simpa using a0
   clear a0; go_wp2; go_ret; exact ⟨_, i, rfl, a1, hb⟩
theorem Jf (p c : Nat) (low : NQ) (base : Nat) (r : NQ) : ∀ j, (dvJ p c low base r j).length = r.length
 | 0 => rfl
 | j + 1 => by rw [dvJ, qai, Jf]
theorem bN (p : Nat) (low : NQ) (n : Nat) (r : NQ) : ∀ k, (dvI p low n r k).length = r.length
 | 0 => rfl
 | k + 1 => by rw [dvI, qai, Jf, bN]
theorem Ly {p : Nat} (hp : 0 < p) (c : Nat) (low : NQ) (base : Nat) {r : NQ} (hr : ∀ x ∈ r, x < p) : ∀ j, ∀ x ∈ dvJ p c low base r j, x < p
 | 0 => hr
 | j + 1 => fun x hx => by
  rw [dvJ] at hx
  rcases Oq hx with h | h
  ·exact Ly hp c low base hr j x h
  ·rw [h]; exact qu _ hp
theorem Yl {p : Nat} (hp : 0 < p) (low : NQ) (n : Nat) {r : NQ} (hr : ∀ x ∈ r, x < p) : ∀ k, ∀ x ∈ dvI p low n r k, x < p
 | 0 => hr
 | k + 1 => fun x hx => by
  rw [dvI] at hx
  rcases Oq hx with h | h
  ·exact Ly hp _ low _ (Yl hp low n hr k) _ x h
  ·rw [h]; exact hp
theorem Vl (w : WQ) (Al Am : OQ) (cl cm p : Nat) (low mod : NQ) (hl : RdN w Al low.length cl low) (hm : RdN w Am mod.length cm mod) (hlp : ∀ x ∈ low, x < p) (hmp : ∀ x ∈ mod, x < p) (hp2 : 2 <= p) (x0 : p <= 256) (hd0 : 1 <= low.length) (hdn : low.length <= mod.length) (hn9 : mod.length <= 8) :
  cQ 49 #[.slice Al low.length cl, .slice Am mod.length cm, nQ p] w (Ah (.bool (divB low mod p)) w) := by
 obtain ⟨i0, hi, m3, n3, o3⟩ := info_parts Bj
 have t1 : ∀ x ∈ mod ++ [1], x < p := fun x hx => by
  rcases qar.1 hx with h | h
  ·exact hmp x h
  ·rw [qbm.1 h]; omega
 have g1 := sK fun k => Yl (show 0 < p by omega) low mod.length t1 k
 have v0 := sK fun k => bN p low mod.length (mod ++ [1]) k
 have m0 := sK fun k c base j => Ly (show 0 < p by omega) c low base (Yl (show 0 < p by omega) low mod.length t1 k) j
 have k3 : (mod ++ [1]).length = mod.length + 1 := by simp
 have a1 : Hid (divB low mod p = (dvI p low mod.length (mod ++ [1]) (mod.length + 1 - low.length)).all (· == 0)) := sK rfl
 have f3 : ∀ j, low.getD j 0 < p := fun j => by
  by_cases hj : j < low.length
  ·exact hlp _ (Ap hj 0)
  ·rw [qa, Mq (by omega)]; exact (by omega : 0 < p)
 have b4 := sK f3
 have g2 := sK hm
 have d2 := sK hl
 rw [k3] at v0
 obtain ⟨n, hn⟩ := xQ mod.length
 obtain ⟨d, hd⟩ := xQ low.length
 obtain ⟨DI, d0⟩ : ∃ DI : Nat -> NQ, DI = fun k => dvI p low n (mod ++ [1]) k := ⟨_, rfl⟩
 have q3 : Hid (DI 0 = mod ++ [1]) := sK (by rw [d0]; rfl)
 have u3 : Hid (∀ k, DI (k + 1) = (dvJ p ((DI k).getD (n - k) 0) low (n - k - d) (DI k) d).set (n - k) 0) := sK fun k => by rw [d0, hd]; rfl
 rw [<- hn, <- hd] at a1
 rw [<- hn] at g1 v0 m0 g2 hdn hn9 ⊢
 rw [<- hd] at d2 hd0 hdn ⊢
 have f2 : Hid (∀ k, ∀ x ∈ DI k, x < p) := sK (by rw [d0]; exact g1.out)
 have f1 : Hid (∀ k, (DI k).length = n + 1) := sK (by rw [d0]; exact v0.out)
 have z3 : Hid (∀ k c base j, ∀ x ∈ dvJ p c low base (DI k) j, x < p) := sK (by rw [d0]; exact m0.out)
 have y3 : Hid (∀ k c base j, (dvJ p c low base (DI k) j).length = n + 1) := sK fun k c base j => by rw [Jf]; exact f1 k
 have s3 : Hid (divB low mod p = (DI (n + 1 - d)).all (· == 0)) := sK (by rw [d0]; exact a1.out)
 clear d0 g1 v0 m0 a1 t1 k3 f3 hm hl hlp hmp hd
 have g3 : 0 < n := by omega
 have HN := sK hn
 have k5 : 2 <= (p : Int) := by omega
 have l5 : ¬ p = 0 := by omega
 clear hn
 go_enter Tryz.func49, Tryz.ntmps49
 go_upto_region 3 with (at_builtin; refine Er rfl (.tmp 15) (.tmp 16) 22 rfl i0 Tryz.underlying22 hi m3 n3 o3 _ rfl Am n cm mod rfl (g2.alloc _) (by omega) ?_; intro A1 c1 w1 s4 i3 t2)
 have p2 := i3 g3
 have n2 : Below w.heap.size w w1 := (Ac w _).trans (qf t2 (by simp))
 have r2 := p2.mono (b' := w.heap.size) (by simp)
 have i1 := sK (r2.alloc (.cells #[.int .i64 1] 3))
 have j0 := sK n2
 clear s4 i3 t2 p2 n2 r2
 go_upto_region 4 with (at_builtin; refine Bl rfl (.tmp 18) (.tmp 19) 22 rfl i0 Tryz.underlying22 hi m3 n3 o3 w.heap.size A1 n c1 mod rfl i1 w1.heap.size 0 1 rfl (by go_simp) (by omega) (by omega) (by have := j0.size; simp; omega) ?_; intro g c2 w2 j3 z2 o4)
 have c0 : Below w.heap.size w w2 := by
  refine ((j0.alloc j0.size _)).grown z2 (by have := j0.size; simp; omega) (fun k9 a3 => ?_); obtain ⟨g9, e9, h9, _⟩ := i1.block g3; rw [e9] at a3; simp [Value.ownBlock] at a3; omega
 have i2 : Hid (OwnN w2 w.heap.size (sQ g) (n + 1) c2 (DI 0)) := sK (by rw [q3.out]; exact j3)
 have v1 := sK c0
 clear j3 z2 o4 c0 i1 j0
 go_upto_region 5 with fail
 go_loopw [9] (fun g0 wr => ∃ k : Nat, k <= n + 1 - d ∧ g0 = .int .i64 ((n : Int) - (k : Int)) ∧ OwnN wr w.heap.size (sQ g) (n + 1) c2 (DI k) ∧ Below w.heap.size w wr) (fun g0 _ => (intOf g0 + 1).toNat)
 case atStart => exact ⟨0, by omega, by simp, i2.out, v1.out⟩
 case round =>
  obtain ⟨k, hk, rfl, hO, hB⟩ := hrel; obtain ⟨wo, rfl⟩ := xQ wr; have HO := sK hO; have HB := sK hB; clear hO hB i2 v1
  by_cases hkd : k < n + 1 - d
  ·obtain ⟨I, hI⟩ := xQ (n - k)
   obtain ⟨s, hs⟩ := xQ (n - k - d); have eI : (n : Int) - (k : Int) = (I : Int) := by omega
   have a5 : d <= I := by omega
   have d5 : I <= n := by omega
   have l3 : s + d = I := by omega
   have b5 : (d : Int) <= (I : Int) := by omega
   rw [eI]; obtain ⟨r, hr⟩ := xQ (DI k); obtain ⟨c, hc⟩ := xQ ((DI k).getD (n - k) 0); have f4 : Hid (r.getD I 0 = c) := sK (by rw [hr, hc, hI]); have h5 : c < p := by
    rw [hc]; exact f2 k _ (Ap (by rw [f1 k]; omega) 0)
   have t3 : Hid (DI (k + 1) = (dvJ p c low s r d).set I 0) := sK (by rw [u3 k, <- hc, <- hs, <- hr, <- hI]); have m0 : Hid (∀ j, ∀ x ∈ dvJ p c low s r j, x < p) := sK (by rw [hr]; exact z3 k c s); have x3 : Hid (∀ j, (dvJ p c low s r j).length = n + 1) := sK (by rw [hr]; exact y3 k c s); rw [<- hr] at HO; have v2 := HO.cell (k := I) (by omega); rw [f4.out] at v2; have HK : Hid (I = n - k) := sK hI; clear hI hs hr hc eI; go_upto_region 9 with fail
   clear v2
   go_loopw [11] (fun jv wr => ∃ j : Nat, j <= d ∧ jv = nQ j ∧ OwnN wr w.heap.size (sQ g) (n + 1) c2 (dvJ p c low s r j) ∧ Below w.heap.size w wr) (fun jv _ => d - (intOf jv).toNat)
   case atStart => exact ⟨0, qe _, rfl, HO.out, HB.out⟩
   case round =>
    obtain ⟨j, hj, rfl, a0, c0⟩ := hrel; obtain ⟨wj, rfl⟩ := xQ wr; clear HO HB
    by_cases hjd : j < d
    ·obtain ⟨t, ht⟩ := xQ (s + j)
     obtain ⟨lb, lo, j4, n4, d3⟩ := (d2.below c0).at hjd; subst j4; have r0 : t < n + 1 := by omega
     have q0 := a0.cell r0; have m5 : (dvJ p c low s r j).getD t 0 < p := m0 j _ (Ap (by rw [x3.out]; exact r0) 0); have j5 := b4 j; have f0 := fun wx (hx : From wj wx) => (a0.below hx).set t (x := ((dvJ p c low s r j).getD t 0 + (p - c) * low.getD j 0) % p) (by have := qu ((dvJ p c low s r j).getD t 0 + (p - c) * low.getD j 0) (show 0 < p by omega); omega)
     have l2 : Hid ((dvJ p c low s r j).set t (((dvJ p c low s r j).getD t 0 + (p - c) * low.getD j 0) % p) = dvJ p c low s r (j + 1)) := sK (by rw [ht]; rfl); rw [l2.out] at f0; have i4 := sK f0; have w0 := a0.free t; have w4 := sK a0; have z0 := sK c0; obtain ⟨n1, y2⟩ : w.heap.size <= g ∧ g < wj.heap.size := by
      obtain ⟨gb, o1, h1, h2⟩ := a0.block (by omega); simp only [qc, qd, and_true] at o1; omega
     clear f0 a0 c0 l2; generalize (dvJ p c low s r j).getD t 0 = rt at *; generalize low.getD j 0 = lj at *; have e0 : IntKind.i64.wrap ((I : Int) - (d : Int)) = (s : Int) := by rw [show (I : Int) - (d : Int) = (s : Int) by omega]; exact Ay (by omega)
     have e1 : IntKind.i64.wrap (t : Int) = (t : Int) := Ay (by omega); have z4 : (s : Int) + (j : Int) = (t : Int) := by omega
     have y4 := sK l3; clear l3; have e2 : IntKind.i64.wrap ((p : Int) - (c : Int)) = ((p - c : Nat) : Int) := by rw [show (p : Int) - (c : Int) = ((p - c : Nat) : Int) by omega]; exact Ay (by omega)
     have n5 : p - c <= 256 := by omega
     generalize p - c = a2 at *; have g5 := Et (a := a2) (b := lj) (by omega) (by omega); have e3 : IntKind.i64.wrap ((a2 : Int) * (lj : Int)) = ((a2 * lj : Nat) : Int) := by rw [<- Yq]; exact Ay (by omega)
     generalize a2 * lj = m2 at *; have e4 : IntKind.i64.wrap ((rt : Int) + (m2 : Int)) = ((rt + m2 : Nat) : Int) := by rw [<- qal]; exact Ay (by omega)
     generalize rt + m2 = u2 at *; have e5 := Cg u2 p; generalize u2 % p = nk at *; have o5 : (t : Int) < (n : Int) + 1 := by omega
     have m4 : (j : Int) < (d : Int) := by omega
     clear ht; go_upto_region 11 with fail
     have k4 : From wj wj := From.refl wj; have j2 := sK q0; have a4 := sK d3; have w3 := sK w0; have k1 : Hid (g < wj.heap.size) := sK y2; have g4 : Hid (lb < wj.heap.size) := sK n4; clear q0 d3 w0; refine wpT 26 78 [.v (.slice (sQ g) (n + 1) c2), .v (nQ I), .v (nQ d), .v (nQ s), .v (nQ j), .v (nQ t), .v (.slice (sQ g) (n + 1) c2), .v (nQ I), .v (nQ d), .v (nQ s), .v (nQ j), .v (nQ t), .v (.pointer (some ⟨g, t, none⟩)), .v (nQ rt), .v (nQ p), .v (nQ c), .v (nQ a2), .v (.slice (some ⟨lb, lo, none⟩) d cl), .v (nQ j), .v (.pointer (some ⟨lb, lo + j, none⟩)), .v (nQ lj), .v (nQ m2), .v (nQ u2), .v (nQ p), .v (nQ nk), .v (.pointer (some ⟨g, t, none⟩))] wj (by kernel_rfl) (by kernel_rfl) (by kernel_rfl) rfl (From.drew k4) ?_; simp only [Tk]
     iterate 26 (refine .z (fun wx hx _ hK => by first | (go_simp; exact Kz hK) | (have hc := (hx.cell (p := ⟨g, t, none⟩) k1.out).trans j2.out; go_simp; exact Kz hK) | (have hc := (hx.cell (p := ⟨lb, lo + j, none⟩) g4.out).trans a4.out; go_simp; exact Kz hK)) ?_; simp only [Pt])
     refine .nil fun w5 y0 _ => ?_
     have i5 := (y0.cell (p := ⟨g, t, none⟩) k1.out).trans j2.out; have w0 := (y0.frozen (p := ⟨g, t, none⟩) k1.out).trans w3.out; go_wp2; go_roundw
     case rel => exact ⟨j + 1, by omega, by go_num, i4 _ y0, (Aa y0 z0.out).setCell (p := ⟨g, t, none⟩) n1 _⟩
     case measure => simp [intOf] <;> omega
    ·obtain rfl : j = d := by omega
     have m4 : decide ((j : Int) < (j : Int)) = false := by simp
     have f0 := a0.set I (x := 0) (by omega); rw [<- t3.out] at f0; have q0 := a0.cell (k := I) (by omega); have w0 := a0.free I; obtain ⟨n1, y2⟩ : w.heap.size <= g ∧ g < wj.heap.size := by
      obtain ⟨gb, o1, h1, h2⟩ := a0.block (by omega); simp only [qc, qd, and_true] at o1; omega
     have HS := sK f0; have z0 := sK c0; have f5 : (I : Int) < (n : Int) + 1 := by omega
     clear f0 a0 c0; generalize (dvJ p c low s r j).getD I 0 = rI at *; go_wp2; go_roundw
     case rel =>
      refine ⟨k + 1, by omega, ?_, HS.out, z0.setCell (p := ⟨g, I, none⟩) n1 _⟩; have := HK.out; rw [show (I : Int) - 1 = (n : Int) - ((k + 1 : Nat) : Int) by omega]
     case measure => simp [intOf] <;> omega
  ·have c3 : k = n + 1 - d := by omega
   have eI : (n : Int) - (k : Int) = (d : Int) - 1 := by omega
   rw [eI]; have x2 : ¬ (d : Int) <= (d : Int) - 1 := by omega
   obtain ⟨r, hr⟩ := xQ (DI k); have x1 : Hid (divB low mod p = r.all (· == 0)) := sK (by rw [hr, c3]; exact s3.out); have k2 : Hid (r.length = n + 1) := sK (by rw [hr]; exact f1 k); have x4 : Hid (∀ i, r.getD i 0 < p) := sK fun i => by
    by_cases h : i < r.length
    ·exact f2 k _ (by rw [<- hr]; exact Ap h 0)
    ·rw [qa, Mq (by omega)]; exact (by omega : 0 < p)
   rw [<- hr] at HO; clear hr c3 eI hkd; go_upto_region 14 with fail
   go_loopw [12] (fun tv wr => ∃ t : Nat, t <= n + 1 ∧ tv = nQ t ∧ (∀ u, u < t -> r.getD u 0 = 0) ∧ wr = wo) (fun tv _ => n + 1 - (intOf tv).toNat)
   case atStart => exact ⟨0, qe _, rfl, fun u hu => by omega, rfl⟩
   case round =>
    obtain ⟨t, ht, rfl, hz, v4⟩ := hrel; subst v4; have HZ := sK hz; clear hz
    by_cases r0 : t < n + 1
    ·have t4 : (t : Int) < (n : Int) + 1 := by omega
     have q0 := HO.cell r0
     by_cases h0 : r.getD t 0 = 0
     ·rw [h0] at q0
      have l1 : Hid (∀ u, u < t + 1 -> r.getD u 0 = 0) := sK fun u hu => by
       by_cases e : u = t
       ·rw [e]; exact h0
       ·exact HZ u (by omega)
      clear h0; go_wp2; go_roundw
      case rel => exact ⟨t + 1, by omega, by go_num, l1.out, trivial⟩
      case measure => simp [intOf] <;> omega
     ·have HF : Hid (divB low mod p = false) := sK (by
       rw [x1.out, Bool.eq_false_iff]; intro h9; rw [qad] at h9; have := h9 _ (Ap (by rw [k2.out]; exact r0) 0); rw [beq_iff_eq] at this; exact h0 this)
      have hb : ((r.getD t 0 : Int) != 0) = true := by rw [bne_iff_ne]; omega
      clear h0; generalize r.getD t 0 = rt at *; go_wp2; go_ret; exact ⟨by rw [HF.out]; rfl, HB.out⟩
    ·obtain rfl : t = n + 1 := by omega
     have HT : Hid (divB low mod p = true) := sK (by
      rw [x1.out, qad]; intro x hx; obtain ⟨i, l4, rfl⟩ := List.getElem_of_mem hx; have := HZ i (by have := k2.out; omega); rw [qa, qh l4] at this; rw [beq_iff_eq]; exact this)
     have t4 : ¬ (((n + 1 : Nat) : Int) < (n : Int) + 1) := by omega
     go_wp2; go_ret; exact ⟨by rw [HT.out]; rfl, HB.out⟩
theorem iF (mod : NQ) (p : Nat) : irrB mod p = true ↔ ∀ d, 1 <= d -> 2 * d <= mod.length -> ∀ v, v < p ^ d -> divB (digs p d v) mod p = false := by
 unfold irrB qL
 rw [qad]
 constructor
 ·intro h d h1 h2 v hv
  have := h (d - 1) (Wq.2 (by omega)); simp only [qbe, decide_eq_true_eq, qad, Wq] at this; rw [show d - 1 + 1 = d by omega] at this
  rcases this with h3 | h3
  ·omega
  ·have := h3 v hv
   simpa using this
 ·intro h d hd
  simp only [qbe, decide_eq_true_eq, qad, Wq]
  by_cases e : mod.length < 2 * (d + 1)
  ·exact .inl e
  ·refine .inr fun v hv => ?_
   rw [h (d + 1) (by omega) (by omega) v hv]; rfl
theorem Nn (w : WQ) (Am : OQ) (cm p : Nat) (mod : NQ) (hm : RdN w Am mod.length cm mod) (hmp : ∀ x ∈ mod, x < p) (hp2 : 2 <= p) (hn9 : mod.length <= 8) (hq : p ^ mod.length <= 256) :
  cQ 22 #[.slice Am mod.length cm, nQ p] w (Ah (.bool (irrB mod p)) w) := by
 have o0 : ∀ d, 2 * d <= mod.length -> p ^ d <= 256 := fun d hd => qs (qy (by omega) (by omega)) hq
 have x0 : 1 <= mod.length -> p <= 256 := fun h => qs (by have := qy (show 0 < p by omega) h; rwa [qbk] at this) hq
 obtain ⟨n, hn⟩ := xQ mod.length
 have y1 : Hid (∀ wx, From w wx -> ∀ d v A1 c1, 1 <= d -> 2 * d <= n -> RdN wx A1 d c1 (digs p d v) -> cQ 49 #[.slice A1 d c1, .slice Am n cm, nQ p] wx (Ah (.bool (divB (digs p d v) mod p)) wx)) := sK fun wx h9 d v A1 c1 h1 h2 hr => by
  have hl := Cb p d v; have := Vl wx A1 Am c1 cm p (digs p d v) mod (by rw [hl]; exact hr) (hm.below h9) (Dy (by omega) d v) hmp hp2 (x0 (by omega)) (by omega) (by omega) (by omega)
  rwa [hl, <- hn] at this
 have d1 := sK (iF mod p)
 have d4 : Hid (∀ d, 2 * d <= n -> p ^ d <= 256) := sK (by rw [hn]; exact o0)
 have c4 : Hid (1 <= n -> p <= 256) := sK (by rw [hn]; exact x0)
 rw [<- hn] at d1 hn9 ⊢
 generalize irrB mod p = R at *
 have r3 : Hid (∀ d v, Hid (divB (digs p d v) mod p = divB (digs p d v) mod p)) := sK fun _ _ => sK rfl
 obtain ⟨dv, b0⟩ : ∃ dv : Nat -> Nat -> Bool, dv = fun d v => divB (digs p d v) mod p := ⟨_, rfl⟩
 have v3 : Hid (∀ wx, From w wx -> ∀ d v A1 c1, 1 <= d -> 2 * d <= n -> RdN wx A1 d c1 (digs p d v) -> cQ 49 #[.slice A1 d c1, .slice Am n cm, nQ p] wx (Ah (.bool (dv d v)) wx)) := sK (by rw [b0]; exact y1.out)
 have z1 : Hid (R = true ↔ ∀ d, 1 <= d -> 2 * d <= n -> ∀ v, v < p ^ d -> dv d v = false) := sK (by rw [b0]; exact d1.out)
 clear y1 d1 r3 b0 hm hmp hn o0 x0 hq
 go_enter Tryz.func22, Tryz.ntmps22
 go_wp2
 go_loopw [5, 6] (fun cv g0 wr => ∃ d : Nat, 1 <= d ∧ d <= 8 ∧ cv = .int .i64 ((p ^ (d - 1) : Nat) : Int) ∧ g0 = nQ d ∧ (∀ e, 1 <= e -> e < d -> 2 * e <= n ∧ ∀ v, v < p ^ e -> dv e v = false) ∧ From w wr) (fun _ g0 _ => 8 - (intOf g0).toNat)
 case atStart => exact ⟨1, qb _, by omega, by simp, rfl, fun e h1 h2 => by omega, bR⟩
 case round =>
  obtain ⟨d, h1, h8, rfl, rfl, s2, hF⟩ := hrel; obtain ⟨wo, rfl⟩ := xQ wr; have u1 := sK s2; have HF := sK hF; clear s2 hF
  by_cases hdn : 2 * d <= n
  ·have x2 : 2 * (d : Int) <= (n : Int) := by omega
   have r4 := d4 d hdn; have o0 : p ^ (d - 1) * p = p ^ d := by rw [<- qr]; congr 1; omega
   have q4 : p ^ (d - 1) <= p ^ d := qy (by omega) (by omega); have e3 : ((p ^ (d - 1) : Nat) : Int) * (p : Int) = ((p ^ d : Nat) : Int) := by rw [<- o0, Yq]
   have p4 := c4 (by omega); obtain ⟨q, s1⟩ := xQ (p ^ d); have j1 := sK s1; rw [<- s1] at r4 e3 q4; clear s1 o0; generalize p ^ (d - 1) = q1 at *; go_upto_region 7 with fail
   go_loopw [7] (fun tv wr => ∃ v : Nat, v <= q ∧ tv = nQ v ∧ (∀ u, u < v -> dv d u = false) ∧ From w wr) (fun tv _ => q - (intOf tv).toNat)
   case atStart => exact ⟨0, qe _, rfl, fun u hu => by omega, HF.out⟩
   case round =>
    obtain ⟨v, hv, rfl, hz, o2⟩ := hrel; obtain ⟨wv, rfl⟩ := xQ wr; have HZ := sK hz; have l0 := sK o2; clear hz o2
    by_cases hvq : v < q
    ·have u4 : (v : Int) < (q : Int) := by omega
     have b1 := sK (Nj wv v p d (by omega) (by omega) p4 (by omega)); unfold iv at b1; have t0 : Hid (∀ wx, From w wx -> ∀ A1 c1, RdN wx A1 d c1 (digs p d v) -> cQ 49 #[.slice A1 d c1, .slice Am n cm, nQ p] wx (Ah (.bool (dv d v)) wx)) := sK fun wx h9 A1 c1 hr => v3 wx h9 d v A1 c1 h1 hdn hr
     cases b0 : dv d v with
     | false =>
      rw [b0] at t0; have l1 : Hid (∀ u, u < v + 1 -> dv d u = false) := sK fun u hu => by
       by_cases e : u = v
       ·rw [e]; exact b0
       ·exact HZ u (by omega)
      clear b0; go_wp2_with (first | (go_at_call 50; refine b1.mono ?_; rintro e w5 ⟨A5, c5, rfl, r1, n0⟩) | (go_at_call 49; refine (t0 w5 (Aa n0 l0.out) A5 c5 r1.rd).mono ?_; rintro e w6 ⟨rfl, m1⟩)); go_roundw
      case rel => exact ⟨v + 1, by omega, by go_num, l1.out, Aa m1 (Aa n0 l0.out)⟩
      case measure => simp [intOf] <;> omega
     | true =>
      rw [b0] at t0; have HR : Hid (R = false) := sK (by
       cases hR : R with
       | false => rfl
       | true =>
        have := z1.out.1 hR d h1 hdn v (by rw [<- j1.out]; exact hvq); rw [b0] at this; cases this)
      clear b0; go_wp2_with (first | (go_at_call 50; refine b1.mono ?_; rintro e w5 ⟨A5, c5, rfl, r1, n0⟩) | (go_at_call 49; refine (t0 w5 (Aa n0 l0.out) A5 c5 r1.rd).mono ?_; rintro e w6 ⟨rfl, m1⟩)); go_ret; exact ⟨by rw [HR.out]; rfl, Aa m1 (Aa n0 l0.out)⟩
    ·obtain rfl : v = q := by omega
     have u4 : decide ((v : Int) < (v : Int)) = false := by simp
     have p3 : Hid (∀ e, 1 <= e -> e < d + 1 -> 2 * e <= n ∧ ∀ u, u < p ^ e -> dv e u = false) := sK fun e h2 h3 => by
      by_cases h4 : e = d
      ·subst h4
       exact ⟨hdn, fun u hu => HZ u (by rw [j1.out]; exact hu)⟩
      ·exact u1 e h2 (by omega)
     go_wp2; go_roundw
     case rel => exact ⟨d + 1, by omega, by omega, by rw [j1.out]; rfl, by go_num, p3.out, l0.out⟩
     case measure => simp [intOf] <;> omega
  ·have x2 : ¬ 2 * (d : Int) <= (n : Int) := by omega
   have HR : Hid (R = true) := sK (z1.out.2 fun e h2 h3 v hv => (u1 e h2 (by omega)).2 v hv); go_wp2; go_ret; exact ⟨by rw [HR.out]; rfl, HF.out⟩
structure RdZ (w : WQ) (A : OQ) (n c : Nat) (l : List Int) : Prop where
 len : l.length = n
 cap : n <= c
 max : c <= maxLen
 cells : 0 < n -> ∃ b a0, A = some ⟨b, a0, none⟩ ∧ b < w.heap.size ∧ ∀ j, j < n -> w.cell? ⟨b, a0 + j, none⟩ = some (.int .i64 (l.getD j 0))
section
variable {w w' : WQ} {A : OQ} {n c : Nat} {l : List Int}
theorem RdZ.below (h : RdZ w A n c l) (hb : From w w') : RdZ w' A n c l :=
 ⟨h.len, h.cap, h.max, fun hn => by
  obtain ⟨b, a0, e, n0, hc⟩ := h.cells hn; exact ⟨b, a0, e, qk n0 hb.size, fun j hj => (hb.cell (p := ⟨b, a0 + j, none⟩) n0).trans (hc j hj)⟩⟩
theorem RdZ.at (h : RdZ w A n c l) {k : Nat} (hk : k < n) : ∃ b a0, A = some ⟨b, a0, none⟩ ∧ b < w.heap.size ∧ w.cell? ⟨b, a0 + k, none⟩ = some (.int .i64 (l.getD k 0)) := by
 obtain ⟨b, a0, e, n0, hc⟩ := h.cells (by omega)
 exact ⟨b, a0, e, n0, hc k hk⟩
theorem RdZ.nat (h : RdZ w A n c l) {p : Nat} (hp : p <= 1000000) (hl : ∀ j, j < n -> 0 <= l.getD j 0 ∧ l.getD j 0 < (p : Int)) : RdN w A n c (l.map Int.toNat) ∧ ∀ x ∈ l.map Int.toNat, x < p := by
 have key : ∀ x ∈ l.map Int.toNat, x < p := fun x hx => by
  obtain ⟨y, hy, rfl⟩ := qz.1 hx; obtain ⟨i, hi, rfl⟩ := List.getElem_of_mem hy; have := hl i (by have := h.len; omega); rw [qa, qh hi] at this; simp only [Option.getD_some] at this; omega
 refine ⟨⟨by rw [qak]; exact h.len, h.cap, h.max, fun x hx => by have := key x hx; omega, fun hn => ?_⟩, key⟩
 obtain ⟨b, a0, e, n0, hc⟩ := h.cells hn
 refine ⟨b, a0, e, n0, fun j hj => ?_⟩
 rw [hc j hj]
 have a1 : j < l.length := by rw [h.len]; exact hj
 have h1 := hl j hj
 have e1 : (l.map Int.toNat).getD j 0 = (l.getD j 0).toNat := by
  rw [qa, qa, List.getElem?_map, qh a1]; rfl
 rw [e1, Int.toNat_of_nonneg h1.1]
end
def Says (V : Prop) (w : WQ) (e : Ending) (w' : WQ) : Prop := (∃ k : Int, e = .returned (.int .i64 k) ∧ (k = 0 -> V)) ∧ From w w'
def qN (w : WQ) (P M : Int) (A : OQ) (n c : Nat) : Prop := ∃ S : FD, S.Ok ∧ P = (S.p : Int) ∧ M = ((S.m + 1 : Nat) : Int) ∧ n = (modL S).length ∧ RdN w A (modL S).length c (modL S)
theorem kK {P M : Int} (h : ordI P M ≠ 0) : ∃ p m : Nat, P = (p : Int) ∧ M = (m : Int) ∧ 2 <= p ∧ 1 <= m ∧ m <= 8 ∧ p ^ m <= 256 := by
 unfold ordI at h
 split at h
 ·rename_i h1
  refine ⟨P.toNat, M.toNat, by omega, by omega, by omega, by omega, by omega, h1.2.2.2⟩
 ·exact absurd rfl h
theorem Km (w : WQ) (P M : Int) (A : OQ) (n c : Nat) (l : List Int) (hr : RdZ w A n c l) :
  cQ 7 #[.agg #[.int .i64 P, .int .i64 M, .slice A n c]] w (Says (qN w P M A n c) w) := by
 have HO := sK fun (wx : WQ) => Kl wx P M A n c
 obtain ⟨V, hV⟩ := xQ (qN w P M A n c)
 rw [<- hV]
 have h0 : (1 : Int) = 0 -> V := fun h => absurd h (by decide)
 have x1 : n <= 9223372036854775807 := by have := hr.cap; have := hr.max; unfold maxLen at *; omega
 by_cases hq : ordI P M = 0
 ·rw [hq] at HO
  clear hV; go_enter Tryz.func7, Tryz.ntmps7; go_wp2_with (go_at_call 20; refine (HO _).mono ?_; rintro e w5 ⟨rfl, g0⟩); go_ret; exact ⟨⟨1, rfl, h0⟩, (Ac w _).trans (qf g0 (by simp))⟩
 obtain ⟨p, m, rfl, rfl, d1, s1, z1, t0⟩ := kK hq
 have t1 : p <= 256 := qs (by have := qy (show 0 < p by omega) s1; rwa [qbk] at this) t0
 have d2 : ((ordI (p : Int) (m : Int) : Int) == 0) = false := by rw [beq_eq_false_iff_ne]; omega
 generalize ordI (p : Int) (m : Int) = q at *
 have r0 := sK fun (wx : WQ) => Xo wx p t1
 cases hpr : Kh p with
 | false =>
  rw [hpr] at r0; clear hV hq; go_enter Tryz.func7, Tryz.ntmps7; go_upto_region 1 with fail
  obtain ⟨W, hW, q1, m0, b0⟩ := mk1 w #[nQ p, nQ m, .slice A n c] 24; rw [hW]; clear hW; have c0 : W.cell? ⟨w.heap.size, 0, none⟩ = some (nQ p) := b0.c0; have c1 : W.cell? ⟨w.heap.size, 1, none⟩ = some (nQ m) := b0.c1; have c2 : W.cell? ⟨w.heap.size, 2, none⟩ = some (.slice A n c) := b0.c2; have n1 := sK b0; have i1 := sK m0; clear b0 m0; go_wp2_with (first | (go_at_call 20; refine (HO _).mono ?_; rintro e w5 ⟨rfl, g0⟩; have d0 : w5.cell? ⟨w.heap.size, 0, none⟩ = some (nQ p) := (n1.below g0).c0) | (go_at_call 21; refine (r0 _).mono ?_; rintro e w6 ⟨rfl, rfl⟩)); go_ret; exact ⟨⟨1, rfl, h0⟩, i1.trans (qf g0 (by omega))⟩
 | true =>
  rw [hpr] at r0; have g1 := sK ((Kn p).1 hpr); clear hpr hq; go_enter Tryz.func7, Tryz.ntmps7; go_upto_region 1 with fail
  obtain ⟨W, hW, q1, m0, b0⟩ := mk1 w #[nQ p, nQ m, .slice A n c] 24; rw [hW]; clear hW; have HC : Hid (∀ wx, From W wx -> wx.cell? ⟨w.heap.size, 0, none⟩ = some (nQ p) ∧ wx.cell? ⟨w.heap.size, 1, none⟩ = some (nQ m) ∧ wx.cell? ⟨w.heap.size, 2, none⟩ = some (.slice A n c)) := sK fun wx hx => ⟨(b0.below hx).c0, (b0.below hx).c1, (b0.below hx).c2⟩
  have i1 := sK m0; have HW : Hid (∀ wx, From W wx -> From w wx) := sK fun wx hx => m0.trans (qf hx (by omega))
  clear b0 m0; obtain ⟨c0, c1, c2⟩ := HC W (From.refl W); go_upto_region 3 with (first | (go_at_call 20; refine (HO _).mono ?_; rintro e w5 ⟨rfl, g0⟩; have d0 : w5.cell? ⟨w.heap.size, 0, none⟩ = some (nQ p) := (HC w5 g0).1) | (go_at_call 21; refine (r0 _).mono ?_; rintro e w6 ⟨rfl, rfl⟩))
  have j0 := sK g0; clear g0 c0 c1 c2 d0; obtain ⟨c0, c1, c2⟩ := HC w5 j0.out
  by_cases hm : m = 1
  ·subst hm
   by_cases hn : n = 0
   ·subst hn
    have HV : Hid V := sK (by
     rw [hV]; obtain ⟨x, hx⟩ := Iw (p := p) (m := 0) (v := 0) d1 g1 t0 (qbd (by omega)) (fun _ => rfl) (fun h => absurd rfl h); have e1 : modL ⟨p, 0, 0, x⟩ = [] := by unfold modL; rw [if_pos rfl]
     exact ⟨_, hx, rfl, rfl, by rw [e1]; rfl, by rw [e1]; exact RdN.empty w A c hr.max⟩)
    clear hV; go_wp2; go_ret; exact ⟨⟨0, rfl, fun _ => HV.out⟩, HW _ j0.out⟩
   ·have l1 : ((n : Int) != 0) = true := by rw [bne_iff_ne]; omega
    clear hV; go_wp2; go_ret; exact ⟨⟨1, rfl, h0⟩, HW _ j0.out⟩
  ·have a2 : ((m : Int) == 1) = false := by rw [beq_eq_false_iff_ne]; omega
   by_cases hnm : n = m
   ·subst hnm
    have l1 : ((n : Int) != (n : Int)) = false := by simp
    have HR := sK hr; have x0 := sK hV; clear hV hr; go_upto_region 10 with fail
    clear c0 c1 c2
    go_loopw [3] (fun jv wr => ∃ j : Nat, j <= n ∧ jv = nQ j ∧ (∀ k, k < j -> 0 <= l.getD k 0 ∧ l.getD k 0 < (p : Int)) ∧ From W wr) (fun jv _ => n - (intOf jv).toNat)
    case atStart => exact ⟨0, qe _, rfl, fun k hk => by omega, j0.out⟩
    case round =>
     obtain ⟨j, hj, rfl, j1, hF⟩ := hrel; obtain ⟨wo, rfl⟩ := xQ wr; have f1 := sK j1; have HF := sK hF; clear j1 hF j0; obtain ⟨c0, c1, c2⟩ := HC wo HF.out
     by_cases hjn : j < n
     ·have a1 : (j : Int) < (n : Int) := by omega
      obtain ⟨lb, lo, o1, r1, b1⟩ := (HR.below (HW wo HF.out)).at hjn; subst o1; obtain ⟨y, hy⟩ := xQ (l.getD j 0); have HY := sK hy; rw [<- hy] at b1; clear hy; go_upto_region 12 with fail
      have y0 : From wo wo := From.refl wo; have v0 := sK b1; have w0 : Hid (lb < wo.heap.size) := sK r1; clear b1 c0 c1 c2; have y1 : W.heap.size <= wo.heap.size := HF.size
      by_cases hy0 : y < 0
      ·have v1 : decide (y < 0) = true := by simpa using hy0
       refine wpT 16 54 [.v (.pointer (some ⟨w.heap.size, 2, none⟩)), .v (.slice (some ⟨lb, lo, none⟩) n c), .v (nQ j), .v (.pointer (some ⟨lb, lo + j, none⟩)), .v (.int .i64 y), .v (.bool true), .v (.bool true), .v (undef), .v (undef), .v (undef), .v (undef), .v (undef), .v (undef), .v (undef), .v (undef), .v (.bool true)] wo (by kernel_rfl) (by kernel_rfl) (by kernel_rfl) rfl (From.drew y0) ?_; simp only [Tk]
       iterate 16 (refine .z (fun wx hx _ hK => by first | (go_simp; exact Kz hK) | (obtain ⟨c0, c1, c2⟩ := HC wx (Aa hx HF.out); go_simp; exact Kz hK) | (have hc := (hx.cell (p := ⟨lb, lo + j, none⟩) w0.out).trans v0.out; go_simp; exact Kz hK)) ?_; simp only [Pt])
       refine .nil fun w7 q0 _ => ?_
       go_wp2; go_ret; exact ⟨⟨1, rfl, h0⟩, HW _ (Aa q0 HF.out)⟩
      ·have v1 : decide (y < 0) = false := by simpa using hy0
       have e2 : ¬ y < 0 := hy0
       by_cases hyp : y < (p : Int)
       ·have w1 : decide ((p : Int) <= y) = false := by simpa using hyp
        have m1 : Hid (∀ k, k < j + 1 -> 0 <= l.getD k 0 ∧ l.getD k 0 < (p : Int)) := sK fun k hk => by
         by_cases e : k = j
         ·rw [e, <- HY.out]; omega
         ·exact f1 k (by omega)
        refine wpT 16 54 [.v (.pointer (some ⟨w.heap.size, 2, none⟩)), .v (.slice (some ⟨lb, lo, none⟩) n c), .v (nQ j), .v (.pointer (some ⟨lb, lo + j, none⟩)), .v (.int .i64 y), .v (.bool false), .v (.bool false), .v (.pointer (some ⟨w.heap.size, 2, none⟩)), .v (.slice (some ⟨lb, lo, none⟩) n c), .v (nQ j), .v (.pointer (some ⟨lb, lo + j, none⟩)), .v (.int .i64 y), .v (pQ w.heap.size), .v (nQ p), .v (.bool false), .v (.bool false)] wo (by kernel_rfl) (by kernel_rfl) (by kernel_rfl) rfl (From.drew y0) ?_; simp only [Tk]
        iterate 16 (refine .z (fun wx hx _ hK => by first | (go_simp; exact Kz hK) | (obtain ⟨c0, c1, c2⟩ := HC wx (Aa hx HF.out); go_simp; exact Kz hK) | (have hc := (hx.cell (p := ⟨lb, lo + j, none⟩) w0.out).trans v0.out; go_simp; exact Kz hK)) ?_; simp only [Pt])
        refine .nil fun w7 q0 _ => ?_
        go_wp2; go_roundw
        case rel => exact ⟨j + 1, by omega, by go_num, m1.out, Aa q0 HF.out⟩
        case measure => simp [intOf] <;> omega
       ·have w1 : decide ((p : Int) <= y) = true := by simpa using hyp
        have f2 : (p : Int) <= y := by omega
        refine wpT 16 54 [.v (.pointer (some ⟨w.heap.size, 2, none⟩)), .v (.slice (some ⟨lb, lo, none⟩) n c), .v (nQ j), .v (.pointer (some ⟨lb, lo + j, none⟩)), .v (.int .i64 y), .v (.bool false), .v (.bool false), .v (.pointer (some ⟨w.heap.size, 2, none⟩)), .v (.slice (some ⟨lb, lo, none⟩) n c), .v (nQ j), .v (.pointer (some ⟨lb, lo + j, none⟩)), .v (.int .i64 y), .v (pQ w.heap.size), .v (nQ p), .v (.bool true), .v (.bool true)] wo (by kernel_rfl) (by kernel_rfl) (by kernel_rfl) rfl (From.drew y0) ?_; simp only [Tk]
        iterate 16 (refine .z (fun wx hx _ hK => by first | (go_simp; exact Kz hK) | (obtain ⟨c0, c1, c2⟩ := HC wx (Aa hx HF.out); go_simp; exact Kz hK) | (have hc := (hx.cell (p := ⟨lb, lo + j, none⟩) w0.out).trans v0.out; go_simp; exact Kz hK)) ?_; simp only [Pt])
        refine .nil fun w7 q0 _ => ?_
        go_wp2; go_ret; exact ⟨⟨1, rfl, h0⟩, HW _ (Aa q0 HF.out)⟩
     ·obtain rfl : j = n := by omega
      have a1 : decide ((j : Int) < (j : Int)) = false := by simp
      obtain ⟨hN, l0⟩ := HR.nat (p := p) (by omega) f1.out; obtain ⟨f0, k1⟩ := xQ (l.map Int.toNat); rw [<- k1] at hN l0; clear k1; have i0 := hN.len; have o0 := sK (Nn wo A c p f0 (by rw [i0]; exact hN.below (HW wo HF.out)) l0 d1 (by omega) (by rw [i0]; exact t0)); rw [i0] at o0
      cases hir : irrB f0 p with
      | false =>
       rw [hir] at o0; clear hir x0 hN l0; go_wp2_with (go_at_call 22; refine o0.mono ?_; rintro e w8 ⟨rfl, z0⟩); go_ret; exact ⟨⟨1, rfl, h0⟩, HW _ (Aa z0 HF.out)⟩
      | true =>
       rw [hir] at o0; have HV : Hid V := sK (by
        rw [x0.out]; have e0 : digs p j (val p f0) = f0 := by rw [<- i0]; exact We (by omega) f0 l0
        have u1 : val p f0 < p ^ j := by rw [<- i0]; exact Yh (by omega) f0 l0
        obtain ⟨m', rfl⟩ : ∃ m', j = m' + 1 := ⟨j - 1, by omega⟩
        obtain ⟨x, hx⟩ := Iw (p := p) (m := m') (v := val p f0) d1 g1 t0 u1 (fun h => absurd (by omega : m' + 1 = 1) hm) (fun _ => by rw [e0]; exact hir); have e1 : modL ⟨p, m', val p f0, x⟩ = f0 := by
         unfold modL; rw [if_neg (show ¬ m' = 0 by omega)]; exact e0
        exact ⟨_, hx, rfl, rfl, by rw [e1]; exact i0.symm, by rw [e1, i0]; exact hN⟩)
       clear hir x0 hN l0; go_wp2_with (go_at_call 22; refine o0.mono ?_; rintro e w8 ⟨rfl, z0⟩); go_ret; exact ⟨⟨0, rfl, fun _ => HV.out⟩, HW _ (Aa z0 HF.out)⟩
   ·have l1 : ((n : Int) != (m : Int)) = true := by rw [bne_iff_ne]; omega
    clear hV; go_wp2; go_ret; exact ⟨⟨1, rfl, h0⟩, HW _ j0.out⟩
end Go.Proofs.YtoalkldfhkabnaaGreatDoor
