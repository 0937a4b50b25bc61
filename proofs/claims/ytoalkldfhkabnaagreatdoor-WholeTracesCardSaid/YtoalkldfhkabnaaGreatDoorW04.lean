/- Part of WholeTraces. -/
import Derived.Laws.CopyOwn
import Derived.Deep.AppendLies
import Derived.Test.YtoalkldfhkabnaaGreatDoorW00
import Derived.Test.YtoalkldfhkabnaaGreatDoorW03
set_option linter.all false
set_option maxRecDepth 10000
set_option maxHeartbeats 16000000
namespace Go.Proofs.YtoalkldfhkabnaaGreatDoor
open Go.RowKit Fq
theorem Fq.digs_snoc (p : Nat) : ∀ m x, digs p (m + 1) x = digs p m x ++ [x / p ^ m % p]
 | 0, x => by simp [digs]
 | m + 1, x => by
  rw [digs, digs_snoc p m (x / p), digs, qba, qah, <- Nat.pow_succ']
theorem Uu (p x : Nat) {m i : Nat} (hi : i < m) : (digs p i x ++ List.replicate (m - i) 0).set i (x / p ^ i % p) = digs p (i + 1) x ++ List.replicate (m - (i + 1)) 0 := by
 rw [digs_snoc, qap, qbo _ _ (by rw [Cb]; exact qb _), Cb, qaa, show m - i = (m - (i + 1)) + 1 by omega, qdb, qo]
 rfl
theorem Ih (w : WQ) (x p m : Nat) (hx : x < 1000000) (hp : 1 < p) (hp1 : p <= 256) (hm : m <= 1000) : cQ 167 #[iv x, iv p, iv m] w (RetN m (digs p m x) w) := by
 obtain ⟨i0, hi, i1, j1, k1⟩ := info_parts Bj
 have d1 : 0 < p := by omega
 have z1 : 1 < (p : Int) := by omega
 unfold iv
 go_enter Tryz.func167, Tryz.ntmps167
 go_wp2_with (at_make; refine Bd rfl _ _ _ rfl i0 Tryz.underlying22 hi i1 j1 k1 _ _ m rfl rfl (by omega) ?_; intro w1 w0 o0 d0)
 have v0 : w.heap.size < w1.heap.size := by omega
 clear d0
 go_loopw [0, 13] (fun xv l0 wr => ∃ i y : Nat, i <= m ∧ l0 = nQ i ∧ xv = nQ y ∧ y <= x ∧ Hid (y = x / p ^ i) ∧ OwnN wr w.heap.size (sQ w.heap.size) m m (digs p i x ++ List.replicate (m - i) 0) ∧ Below w.heap.size w wr ∧ w.heap.size < wr.heap.size) (fun _ l0 _ => m - (intOf l0).toNat)
 case atStart => exact ⟨0, x, qe _, rfl, rfl, qb _, sK (by simp), by simpa [digs] using w0, o0, v0⟩
 case round =>
  clear w0 o0 v0; obtain ⟨i, y, u1, rfl, rfl, g1, HY, f0, hb, c0⟩ := hrel
  by_cases hi' : i < m
  ·have t0 := f0.cell hi'
   have t1 := f0.free i; have x0 := f0.set i (x := y % p) (by have := qu y d1; omega); rw [HY.out, Uu p x hi', <- HY.out] at x0; have z0 : Hid (y / p = x / p ^ (i + 1)) := sK (by rw [HY.out, qah, qr]); have a1 : y / p <= x := qs (qaf _ _) g1; have e1 : (y : Int) % (p : Int) = ((y % p : Nat) : Int) := (qcf _ _).symm; have e2 : (y : Int) / (p : Int) = ((y / p : Nat) : Int) := (Int.natCast_ediv _ _).symm; clear HY; generalize y % p = r at *; generalize y / p = y2 at *; go_wp2; go_roundw
   case rel => exact ⟨i + 1, y2, by omega, by go_num, by go_num, a1, z0, x0, hb.setCell (p := ⟨w.heap.size, i, none⟩) (qb _) _, by simpa [World.setCell] using c0⟩
   case measure => simp [intOf]; omega
  ·obtain rfl : i = m := by omega
   have c1 : OwnN wr w.heap.size (sQ w.heap.size) i i (digs p i x) := by simpa using f0
   clear f0; go_wp2; go_ret; exact ⟨_, i, rfl, c1, hb⟩
theorem Og (p : Nat) (l : NQ) {k : Nat} (h : k < l.length) : val p (l.drop k) = l.getD k 0 + p * val p (l.drop (k + 1)) := by
 rw [List.drop_eq_getElem_cons h, qa, qh h]
 rfl
theorem Ng (p : Nat) (hp : 0 < p) (l : NQ) (k : Nat) : val p (l.drop k) <= val p l := by
 induction k with
 | zero => simp
 | succ k ih =>
  by_cases h : k < l.length
  ·have h1 := Og p l h
   have h2 : 1 * val p (l.drop (k + 1)) <= p * val p (l.drop (k + 1)) := qct _ hp; omega
  ·rw [qbl (by omega)]; exact qe _
theorem Ve (w : WQ) (A : OQ) (n c p : Nat) (l : NQ) (hr : RdN w A n c l) (hp : 0 < p) (hp1 : p <= 256) (hv : val p l < 1000000) : cQ 278 #[.slice A n c, iv p] w (Ba (iv (val p l)) w) := by
 have n0 := hr.le63
 have b0 := sK hr.len
 have HV : Hid (∀ k, val p (l.drop k) < 1000000) := sK fun k => Nat.lt_of_le_of_lt (Ng p hp l k) hv
 have h0 : val p (l.drop 0) = val p l := by simp
 unfold iv
 go_enter Tryz.func278, Tryz.ntmps278
 go_wp2
 go_loop [5, 6] (fun xv kv => ∃ k : Nat, k <= n ∧ kv = .int .i64 ((k : Int) - 1) ∧ xv = .int .i64 (val p (l.drop k) : Nat)) (fun _ kv => (intOf kv + 1).toNat)
 case atStart =>
  refine ⟨n, qb _, rfl, ?_⟩; rw [qbl (by rw [b0.out]; exact qb _)]; rfl
 case round =>
  obtain ⟨k, hk, rfl, rfl⟩ := hrel
  cases k with
  | zero =>
   rw [h0]; clear h0 HV; go_wp2; go_ret; exact ⟨rfl, rfl⟩
  | succ k =>
   clear h0; obtain ⟨b, l1, rfl, hb, t0⟩ := hr.at (k := k) (by omega); have y0 := Og p l (k := k) (by rw [b0.out]; omega); have h1 := HV k; have h2 := HV (k + 1); have q0 := Et (a := val p (l.drop (k + 1))) (b := p) (by omega) (by omega); have hx : l.getD k 0 < 1000000 := hr.sm.at k; have e1 : ((val p (l.drop (k + 1)) : Nat) : Int) * (p : Int) = ((val p (l.drop (k + 1)) * p : Nat) : Int) := by rw [Yq]
   have f1 : val p (l.drop (k + 1)) * p + l.getD k 0 = val p (l.drop k) := by rw [y0, qw]; omega
   clear y0 HV; have e3 : (((k + 1 : Nat) : Int) - 1) = (k : Int) := by omega
   rw [e3]; clear e3; generalize val p (l.drop (k + 1)) * p = m1 at *; generalize val p (l.drop (k + 1)) = v1 at *; generalize l.getD k 0 = x at *; have e2 : ((m1 : Nat) : Int) + (x : Int) = ((val p (l.drop k) : Nat) : Int) := by omega
   have y1 : m1 <= 1000000000000 := q0; clear f1 q0; go_wp2; go_round
   case rel => exact ⟨k, by omega, by go_num, rfl⟩
   case measure => simp [intOf]
def sumL (F : FD) (l : NQ) : Nat := l.foldl F.add 0
def Els (F : FD) (l : NQ) : Prop := ∀ x ∈ l, x < F.q
theorem Els.at {F : FD} (h : F.Ok) {l : NQ} (hl : Els F l) (k : Nat) : l.getD k 0 < F.q := by
 by_cases hk : k < l.length
 ·exact hl _ (Ap hk _)
 ·rw [qa, Mq (by omega)]; have := h.q2; simp; omega
theorem Ru (F : FD) (l : NQ) {k : Nat} (hk : k < l.length) : sumL F (l.take (k + 1)) = F.add (sumL F (l.take k)) (l.getD k 0) := by
 unfold sumL
 rw [qae hk, List.foldl_append, qa, qh hk]
 rfl
theorem Ny {F : FD} (h : F.Ok) (l : NQ) : sumL F l < F.q := by
 unfold sumL
 have : ∀ (l : NQ) a, a < F.q -> l.foldl F.add a < F.q := by
  intro l
  induction l with
  | nil => intro a ha; exact ha
  | cons x l ih => intro a _; exact ih _ (h.add_lt _ _)
 exact this l 0 (by have := h.q2; omega)
theorem qU (w : WQ) (b : Nat) (F : FD) (hG : GFat w b F) (A : OQ) (n c : Nat) (l : NQ) (hr : RdN w A n c l) (hl : Els F l) : cQ 118 #[pQ b, .slice A n c] w (Bs (iv (sumL F l)) w) := by
 have n0 := hr.le63
 have b0 := sK hr.len
 have a0 := hG.ok
 unfold iv
 go_enter Tryz.func118, Tryz.ntmps118
 go_wp2
 go_loopw [5, 10] (fun sv kv wr => ∃ k d : Nat, k <= n ∧ kv = nQ k ∧ sv = .int .i64 (sumL F (l.take k) : Nat) ∧ wr = w.drewN d) (fun _ kv _ => n - (intOf kv).toNat)
 case atStart => exact ⟨0, 0, qe _, rfl, rfl, rfl⟩
 case round =>
  obtain ⟨k, d, hk, rfl, rfl, rfl⟩ := hrel
  by_cases c0 : k < n
  ·obtain ⟨b', l1, rfl, hb, t0⟩ := (hr.below (Ae (bR) d)).at c0
   have hc := Hh (w.drewN d) b F (hG.drewN d) _ _ (Ny a0 (l.take k)) (hl.at a0 k); rw [<- Ru F l (k := k) (by rw [b0.out]; exact c0)] at hc; have h1 := Ny a0 (l.take k); unfold iv at hc; generalize l.getD k 0 = x at *; generalize sumL F (l.take k) = s0 at *; generalize d0 : sumL F (l.take (k + 1)) = s1 at *; have HS := sK d0; clear d0; go_wp2_with (go_at_call 115; refine hc.mono ?_; rintro e w' ⟨rfl, m, rfl⟩); go_roundw
   case rel => exact ⟨k + 1, _, by omega, by go_num, by rw [HS.out], rfl⟩
   case measure => simp [intOf]; omega
  ·obtain rfl : k = n := by omega
   have e0 : l.take k = l := qq (by rw [b0.out]; exact qb _); rw [e0]; clear e0; go_wp2; go_ret; exact ⟨rfl, _, rfl⟩
def dotL (F : FD) (a b : NQ) : Nat := sumL F (List.zipWith F.mul a b)
theorem pH {F : FD} (h : F.Ok) (a b : NQ) : Els F (List.zipWith F.mul a b) := by
 intro x hx
 obtain ⟨i, hi, rfl⟩ := Iq.1 hx
 rw [List.getElem_zipWith]
 exact h.mul_lt _ _
theorem mK (F : FD) (a b : NQ) {k : Nat} (h1 : k < a.length) (h2 : k < b.length) : (List.zipWith F.mul a b).getD k 0 = F.mul (a.getD k 0) (b.getD k 0) := by
 simp [qa, List.getElem?_zipWith, h1, h2]
theorem qT (w : WQ) (b : Nat) (F : FD) (hG : GFat w b F) (A B : OQ) (n c d : Nat) (l r : NQ) (hr : RdN w A n c l) (hr' : RdN w B n d r) (hl : Els F l) (hl' : Els F r) : cQ 110 #[pQ b, .slice A n c, .slice B n d] w (Bs (iv (dotL F l r)) w) := by
 have n0 := hr.le63
 have n1 := hr'.le63
 have b0 := sK hr.len
 have m0 := sK hr'.len
 have a0 := hG.ok
 have HZ : Hid ((List.zipWith F.mul l r).length = n) := sK (by rw [List.length_zipWith, b0.out, m0.out, Nat.min_self])
 unfold dotL
 have HE := sK (pH a0 l r)
 have HG : Hid (∀ k, k < n -> (List.zipWith F.mul l r).getD k 0 = F.mul (l.getD k 0) (r.getD k 0)) := sK fun k hk => mK F l r (by rw [b0.out]; omega) (by rw [m0.out]; omega)
 generalize List.zipWith F.mul l r = z at *
 unfold iv
 go_enter Tryz.func110, Tryz.ntmps110
 go_wp2
 go_loopw [7, 14] (fun sv kv wr => ∃ k e : Nat, k <= n ∧ kv = nQ k ∧ sv = .int .i64 (sumL F (z.take k) : Nat) ∧ wr = w.drewN e) (fun _ kv _ => n - (intOf kv).toNat)
 case atStart => exact ⟨0, 0, qe _, rfl, rfl, rfl⟩
 case round =>
  obtain ⟨k, e, hk, rfl, rfl, rfl⟩ := hrel
  by_cases c0 : k < n
  ·obtain ⟨b1, o1, rfl, _, q1⟩ := hr.at (k := k) (by omega)
   obtain ⟨b2, o2, rfl, _, r1⟩ := hr'.at (k := k) (by omega); have r0 := fun j => Fy (w.drewN j) b F (hG.drewN j) _ _ (hl.at a0 k) (hl'.at a0 k)
   have g0 := fun j => Hh (w.drewN j) b F (hG.drewN j) _ _ (Ny a0 (z.take k)) (a0.mul_lt (l.getD k 0) (r.getD k 0))
   have j0 := Ru F z (k := k) (by rw [HZ.out]; exact c0); rw [HG k c0] at j0; rw [<- j0] at g0; clear j0; generalize l.getD k 0 = x at *; generalize r.getD k 0 = y at *; generalize F.mul x y = xy at *; generalize sumL F (z.take k) = s0 at *; generalize d0 : sumL F (z.take (k + 1)) = s1 at *; have HS := sK d0; clear d0; unfold iv at r0 g0; have x1 : (k : Int) < (n : Int) := by omega
   go_wp2; go_quiet (first | ((go_at_call 108; exact Rd (r0 _))) | ((go_at_call 115; exact Rd (g0 _)))); go_wp2; go_roundw
   case rel => exact ⟨k + 1, _, by omega, by go_num, by rw [HS.out], rfl⟩
   case measure => simp [intOf]; omega
  ·obtain rfl : k = n := by omega
   have e0 : z.take k = z := qq (by rw [HZ.out]; exact qb _); rw [e0]; clear e0; go_wp2; go_ret; exact ⟨rfl, _, rfl⟩
theorem Fd {α : Type} (z : α) {pre : List α} {n k : Nat} (h : pre.length = k) (hk : k < n) (x : α) : (pre ++ List.replicate (n - k) z).set k x = (pre ++ [x]) ++ List.replicate (n - (k + 1)) z := by
 rw [qap, qbo _ _ (by omega), h, qaa, show n - k = (n - (k + 1)) + 1 by omega, qdb, qo]
 rfl
theorem Eo {α β : Type} (f : α -> β) (l : List α) (d : α) {k : Nat} (h : k < l.length) : (l.take (k + 1)).map f = (l.take k).map f ++ [f (l.getD k d)] := by
 rw [qae h, qam, qa, qh h]
 rfl
theorem Iv (w : WQ) (b : Nat) (F : FD) (hG : GFat w b F) (x : Nat) (hx : x < F.q) (A : OQ) (n c : Nat) (l : NQ) (hr : RdN w A n c l) (hl : Els F l) (hn : n <= 1000) :
  cQ 59 #[pQ b, iv x, .slice A n c] w (RetN n (Bb F.fld x l) w) := by
 obtain ⟨i0, hi, v0, w0, x0⟩ := info_parts Bj
 have z0 := hr.le63
 have b0 := sK hr.len
 have c0 := hG.ok
 have hq := c0.q256
 unfold iv
 go_enter Tryz.func59, Tryz.ntmps59
 go_wp2_with (at_make; refine Bd rfl _ _ _ rfl i0 Tryz.underlying22 hi v0 w0 x0 _ _ n rfl rfl (by omega) ?_; intro w1 l0 e0 t0)
 have j0 : w.heap.size < w1.heap.size := by omega
 clear t0
 go_loopw [15] (fun kv wr => ∃ k : Nat, k <= n ∧ kv = nQ k ∧ OwnN wr w.heap.size (sQ w.heap.size) n n ((l.take k).map (F.mul x) ++ List.replicate (n - k) 0) ∧ Below w.heap.size w wr ∧ w.heap.size < wr.heap.size) (fun kv _ => n - (intOf kv).toNat)
 case atStart => exact ⟨0, qe _, rfl, by simpa using l0, e0, j0⟩
 case round =>
  clear l0 e0 j0; obtain ⟨k, hk, rfl, a0, hb, q0⟩ := hrel
  by_cases hki : k < n
  ·obtain ⟨b', y0, rfl, n0, f0⟩ := hr.at hki
   have a1 := (hb.cell (p := ⟨b', y0 + k, none⟩) n0).trans f0; clear f0; have hc := Fy wr b F (hG.keep hb (qb _)) x _ hx (hl.at c0 k); have h0 := fun m => ((a0.below (Ae (bR) m)).free k)
   have g0 := fun m => ((a0.below (Ae (bR) m)).cell hki)
   have o0 : F.mul x (l.getD k 0) < 1000000 := by have := c0.mul_lt x (l.getD k 0); omega
   have d0 := fun m => (a0.below (Ae (bR) m)).set k o0
   rw [Fd 0 (by simp [b0.out]; omega) hki, <- Eo (F.mul x) l 0 (by rw [b0.out]; exact hki)] at d0; have m0 := sK d0; clear d0; generalize l.getD k 0 = y at *; generalize F.mul x y = xy at *; unfold iv at hc; go_wp2_with (go_at_call 108; refine hc.mono ?_; rintro e w' ⟨rfl, m, rfl⟩; have c1 := h0 m; have b1 := g0 m; clear h0 g0); go_roundw
   case rel => exact ⟨k + 1, by omega, by go_num, m0 m, (Ae hb m).setCell (p := ⟨w.heap.size, k, none⟩) (qb _) _, by simpa [World.setCell] using q0⟩
   case measure => simp [intOf]; omega
  ·obtain rfl : k = n := by omega
   have r0 : OwnN wr w.heap.size (sQ w.heap.size) k k (Bb F.fld x l) := by
    rw [qq (by rw [b0.out]; exact qb _), qaa, qao, qas] at a0; exact a0
   clear a0; go_wp2; go_ret; exact ⟨_, k, rfl, r0, hb⟩
section
namespace Fq
theorem Qm {p : Nat} (hp : 0 < p) : ∀ m x y j, j < m -> padd p m x y / p ^ j % p = (x / p ^ j % p + y / p ^ j % p) % p
 | m + 1, x, y, 0, _ => by simp [Dr hp]
 | m + 1, x, y, j + 1, h => by
  have key : ∀ z : Nat, z / p ^ (j + 1) = z / p / p ^ j := fun z => by rw [qr, qw, qah]
  rw [key, key x, key y, Dn hp, Qm hp m _ _ j (by omega)]
theorem Pd {p : Nat} (hp : 0 < p) : ∀ m k x j, j < m -> smul p m k x / p ^ j % p = k * (x / p ^ j % p) % p
 | m + 1, k, x, 0, _ => by simp [Ja hp]
 | m + 1, k, x, j + 1, h => by
  have key : ∀ z : Nat, z / p ^ (j + 1) = z / p / p ^ j := fun z => by rw [qr, qw, qah]
  rw [key, key x, Kx hp, Pd hp m _ _ j (by omega)]
theorem jW {p : Nat} (hp : 0 < p) (m v acc b a j : Nat) (hj : j < m + 1) :
  (padd p (m + 1) (mX p m v acc) (smul p (m + 1) b a)) / p ^ j % p = ((p * (acc % p ^ m)) / p ^ j % p + (p - acc / p ^ m) * (v / p ^ j % p) + b * (a / p ^ j % p)) % p := by
 rw [Qm hp _ _ _ _ hj, mX, Qm hp _ _ _ _ hj, Pd hp _ _ _ _ hj, Pd hp _ _ _ _ hj]
 simp only [qdd, qde]
 rw [qay, qay (_ % p), qdd]
theorem aB {p : Nat} (hp : 0 < p) (m acc : Nat) : digs p (m + 1) (p * (acc % p ^ m)) = 0 :: digs p m acc := by
 have a0 : ∀ m x, digs p m (x % p ^ m) = digs p m x := by
  intro m
  induction m with
  | zero => intro x; rfl
  | succ m ih =>
   intro x; have h1 : x % p ^ (m + 1) % p = x % p := by rw [qr]; exact Nat.mod_mod_of_dvd x (qcs p (p ^ m))
   have h2 : x % p ^ (m + 1) / p = x / p % p ^ m := by rw [qr, qw, qbs]
   rw [digs, digs, h1, h2, ih]
 rw [digs, qat, qab _ hp, a0]
end Fq
end
def IsRd (n : Nat) (l : NQ) (v : Value) (w : WQ) : Prop := ∃ A c, v = .slice A n c ∧ RdN w A n c l
theorem IsRd.lasting {n : Nat} {l : NQ} : ∀ v w w', Below w.heap.size w w' -> IsRd n l v w -> IsRd n l v w' := fun _ _ _ hb ⟨A, c, h1, h2⟩ => ⟨A, c, h1, h2.below hb⟩
def Gs (b n : Nat) (l : NQ) (v : Value) (w : WQ) : Prop := ∃ A c, v = .slice A n c ∧ OwnN w b A n c l
theorem Gs.lasting {b n : Nat} {l : NQ} : ∀ v w w', Below w.heap.size w w' -> Gs b n l v w -> Gs b n l v w' := fun _ _ _ hb ⟨A, c, h1, h2⟩ => ⟨A, c, h1, h2.below hb⟩
theorem OwnN.heap {w : WQ} {base g n : Nat} {l : NQ} (h : OwnN w base (sQ g) n n l) : w.heap[g]? = some (.cells (ivs l).toArray 3 (0, 0)) := by
 rcases h.row.2 with ⟨h1, _⟩ | ⟨g', cap, cur, h1, _, h2, _, _, h3, h4⟩
 ·cases h1
 ·simp only [qm, qc, qd, and_true, true_and] at h1
  obtain ⟨rfl, rfl⟩ := h1; rw [h2, <- h4, qq (by simp [h3])]
theorem OwnN.ofHeap {w : WQ} {base g n : Nat} {l : NQ} (hh : w.heap[g]? = some (.cells (ivs l).toArray 3 (0, 0))) (hb : base <= g) (hl : l.length = n) (hn : n <= maxLen) (hs : Sm l) : OwnN w base (sQ g) n n l :=
 ⟨⟨by rw [Cl]; omega, .inr ⟨g, n, _, rfl, hb, hh, qb _, hn, by simp [Cl, hl], by rw [qq]; simp [Cl, hl]⟩⟩, hs⟩
def mixL (a b : NQ) (j : Nat) : NQ := a.take j ++ b.drop j
theorem Cu {a b : NQ} {j n : Nat} (ha : a.length = n) (hb : b.length = n) (hj : j < n) : (mixL a b j).set j (a.getD j 0) = mixL a b (j + 1) := by
 unfold mixL
 rw [qbo _ _ (by rw [Sq]; omega), Sq, qci (by omega), qaa, List.drop_eq_getElem_cons (by omega), qo, qae (by omega), qap, qa, qh (by omega)]
 rfl
theorem Cz (a b : NQ) : mixL a b 0 = b := by simp [mixL]
theorem Dp {a b : NQ} {n : Nat} (ha : a.length = n) (hb : b.length = n) : mixL a b n = a := by
 unfold mixL
 rw [qq (by omega), qbl (by omega), qas]
theorem iT {a b : NQ} {j n : Nat} (ha : a.length = n) (hb : b.length = n) (hj : j <= n) : (mixL a b j).length = n := by
 unfold mixL; rw [Hq, Sq, List.length_drop]; omega
theorem Ep {a b : NQ} {j k n : Nat} (ha : a.length = n) (hb : b.length = n) (hj : j <= k) (hk : k < n) : (mixL a b j).getD k 0 = b.getD k 0 := by
 unfold mixL
 rw [qa, Gq (by rw [Sq]; omega), Sq, qci (by omega), List.getElem?_drop, qa]
 congr 2; omega
section
variable {P : Program} {w : WQ} {ops : Array Oper} {rest : List Oper} {o : Oper} {a : Act} {Q : Exit -> Act -> WQ -> Prop}
theorem Bl (hgd : o.guard = none) (s x : Operand) (t : TypeId)
  (ho : o.op = .call { callee := .builtin .append, args := #[s, x], argTypes := #[t, t] }) (i : TypeInfo) (ht : P.underlying t = some (.slice 3)) (hi : P.info? 3 = some i) (hz : i.zero = some (zQ)) (hsize : i.size = 1) (hby : i.bytes = 8)
  (base : Nat) (A0 : OQ) (n0 c0 : Nat) (l0 : NQ) (hs : a.eval s = .slice A0 n0 c0) (hown : OwnN w base A0 n0 c0 l0)
  (b off y : Nat) (hx : a.eval x = .slice (some ⟨b, off, none⟩) 1 1) (hc : w.cell? ⟨b, off, none⟩ = some (nQ y)) (hy : y < 1000000) (hn : n0 <= 1000000) (hbase : base <= w.heap.size)
  (h : ∀ g c' w', OwnN w' base (sQ g) (n0 + 1) c' (l0 ++ [y]) -> w.grownBy w' (Value.slice A0 n0 c0).ownBlock -> (A0 = sQ g ∨ g = w.heap.size) -> wpList P ops Q rest (a.put o.dst (.slice (sQ g) (n0 + 1) c')) w') :
  wpList P ops Q (o :: rest) a w := by
 refine wpList_append_lies w hgd s x t ho base 3 i (zQ) 1 8 ht hi hz hsize hby rfl (by omega) _ n0 (ivs l0) hs hown.row ⟨b, off, none⟩ 1 1 [nQ y] hx rfl (fun j u hj => ?_) (by simp [Value.oneCell']) (by omega) (by unfold maxLen; omega) (by omega) hbase _ rfl ?_
 ·cases j with
  | zero =>
   have : u = nQ y := by simpa using hj.symm
   rw [this, <- hc]; rfl
  | succ j => simp at hj
 ·intro g a0 w' h1 h2 h3 _
  refine h g a0 w' ⟨by rw [Gm]; exact h1, hown.sm.append (Sm.one hy)⟩ h2 ?_
  rcases h3 with h3 | h3
  ·left
   cases A0 with
   | none => simp [Value.ownBlock] at h3
   | some ad =>
    rcases hown.form with ⟨h4, _⟩ | ⟨g', h4, _⟩
    ·cases h4
    ·rw [h4]
     have h5 : ad.block = g := by simpa [Value.ownBlock] using h3
     simp only [qc] at h4; rw [h4] at h5; rw [show g' = g from h5]
  ·exact .inr h3
end
theorem OwnN.kept {w w' : WQ} {base : Nat} {A : OQ} {n c : Nat} {l : NQ} {r : Option Nat} (h : OwnN w base A n c l) (hg : w.grownBy w' r) (hne : ∀ g, A = sQ g -> r ≠ some g) : OwnN w' base A n c l := by
 refine ⟨h.row.kept hg ?_, h.sm⟩
 rcases h.form with ⟨rfl, _⟩ | ⟨g, rfl, _⟩
 ·exact .inl rfl
 ·exact .inr fun e => hne g rfl e.symm
theorem Ad (w : WQ) (g k : Nat) (v : Value) : w.grownBy (w.setCell ⟨g, k, none⟩ v) (some g) :=
 ⟨rfl, rfl, rfl, by simp [World.setCell], fun i _ hi => by
  have : g ≠ i := fun e => hi (by rw [e])
  simp [World.setCell, Array.getElem?_modify, this]⟩
def bvs (l : List Bool) : VQ := l.map Value.bool
structure OwnB (w : WQ) (base g n : Nat) (l : List Bool) : Prop where
 row : w.ownsRow base 4 1 (.slice (sQ g) n n) n (bvs l)
section
variable {w w' : WQ} {base g n : Nat} {l : List Bool}
theorem OwnB.len (h : OwnB w base g n l) : l.length = n := by
 have := h.row.1
 simpa [bvs] using this
theorem OwnB.cell (h : OwnB w base g n l) {k : Nat} (hk : k < n) : w.cell? ⟨g, k, none⟩ = some (.bool (l.getD k false)) := by
 rw [h.row.cellAt k (by omega)]
 simp [bvs, qa, show k < l.length by rw [h.len]; exact hk]
theorem OwnB.free (h : OwnB w base g n l) (k : Nat) : w.frozen? ⟨g, k, none⟩ = false := h.row.frozenAt k
theorem OwnB.set (h : OwnB w base g n l) (k : Nat) (b : Bool) : OwnB (w.setCell ⟨g, k, none⟩ (.bool b)) base g n (l.set k b) :=
 ⟨by have := (h.row.stored k (.bool b)).1; simpa [bvs] using this⟩
theorem OwnB.kept {r : Option Nat} (h : OwnB w base g n l) (hg : w.grownBy w' r) (hne : r ≠ some g) : OwnB w' base g n l := ⟨h.row.kept hg (.inr fun e => hne e.symm)⟩
theorem OwnB.below (h : OwnB w base g n l) (hb : Below w.heap.size w w') : OwnB w' base g n l := ⟨Ag h.row hb (qb _)⟩
end
theorem Qo {P : Program} {w : WQ} {ops : Array Oper} {rest : List Oper} {o : Oper} {a : Act} {Q : Exit -> Act -> WQ -> Prop} (hgd : o.guard = none) (l c : Operand) (t : TypeId) (ho : o.op = Op.makeSlice t l c) (i : TypeInfo) (ht : P.underlying t = some (.slice 4)) (hi : P.info? 4 = some i) (hz : i.zero = some (.bool false)) (hsize : i.size = 1) (hby : i.bytes = 1)
  (kl kc : IntKind) (n : Nat) (hl : a.eval l = .int kl (n : Int)) (hc : a.eval c = .int kc (n : Int)) (hn : n <= 1000000)
  (h : ∀ w1, OwnB w1 w.heap.size w.heap.size n (List.replicate n false) -> Below w.heap.size w w1 -> w1.heap.size = w.heap.size + 1 -> wpList P ops Q rest (a.put o.dst (.slice (sQ w.heap.size) n n)) w1) :
  wpList P ops Q (o :: rest) a w :=
 Ds hgd l c t 4 ho i (.bool false) 1 ht hi hz hsize hby rfl kl kc n hl hc (by omega) hn fun w1 h1 h2 h3 => h w1 ⟨by simpa [bvs] using h1⟩ h2 h3
theorem kV : (Tryz.prog.info? 4).map (fun i => (i.zero, i.size, i.bytes)) = some (some (.bool false), 1, 1) := by kernel_rfl
end Go.Proofs.YtoalkldfhkabnaaGreatDoor
