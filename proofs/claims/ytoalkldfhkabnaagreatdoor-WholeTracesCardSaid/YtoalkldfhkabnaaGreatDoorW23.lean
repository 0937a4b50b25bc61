/- Part of WholeTraces. -/
import Derived.Test.YtoalkldfhkabnaaGreatDoorW00
import Derived.Test.YtoalkldfhkabnaaGreatDoorW10
import Derived.Test.YtoalkldfhkabnaaGreatDoorW22
set_option linter.all false
set_option maxRecDepth 10000
set_option maxHeartbeats 16000000
namespace Go.Proofs.YtoalkldfhkabnaaGreatDoor
open Go.RowKit Fq
def fldV (F : FD) (A : OQ) (n c : Nat) : Value := .agg #[nQ F.p, .int .i64 ((F.m + 1 : Nat) : Int), .slice A n c]
theorem cM (w : WQ) (F : FD) (hF : F.Ok) (A : OQ) (n c : Nat) (x : Int) : cQ 153 #[fldV F A n c, .int .i64 x] w (Ah (.bool (decide (0 <= x ∧ x < (F.q : Int)))) w) := by
 have HO := sK fun (wx : WQ) => Kl wx (F.p : Int) ((F.m + 1 : Nat) : Int) A n c
 rw [dA hF] at HO
 unfold fldV
 generalize F.m + 1 = M at *
 generalize F.q = q at *
 by_cases h0 : 0 <= x
 ·have h3 : decide (0 <= x) = true := by simpa using h0
  by_cases hq : x < (q : Int)
  ·have e : decide (0 <= x ∧ x < (q : Int)) = true := by simp [h0, hq]
   rw [e]; clear e; go_enter Tryz.func153, Tryz.ntmps153; go_wp2_with (go_at_call 20; refine (HO _).mono ?_; rintro e w5 ⟨rfl, f0⟩); go_ret; exact ⟨rfl, (Ac w _).trans (qf f0 (by simp))⟩
  ·have e : decide (0 <= x ∧ x < (q : Int)) = false := by simp [hq]
   have c4 : decide (x < (q : Int)) = false := by simpa using hq
   rw [e]; clear e; go_enter Tryz.func153, Tryz.ntmps153; go_wp2_with (go_at_call 20; refine (HO _).mono ?_; rintro e w5 ⟨rfl, f0⟩); go_ret; exact ⟨rfl, (Ac w _).trans (qf f0 (by simp))⟩
 ·have e : decide (0 <= x ∧ x < (q : Int)) = false := by simp [h0]
  have h3 : decide (0 <= x) = false := by simpa using h0
  rw [e]; clear e; go_enter Tryz.func153, Tryz.ntmps153; go_wp2; go_ret; exact ⟨rfl, Ac w _⟩
theorem pF (w : WQ) (F : FD) (hF : F.Ok) (A : OQ) (n c : Nat) (x : Nat) (hx : x < F.q) : cQ 347 #[fldV F A n c, nQ x] w (Ah (nQ x) w) := by
 have HI := sK fun (wx : WQ) => cM wx F hF A n c (x : Int)
 have e : decide (0 <= (x : Int) ∧ (x : Int) < (F.q : Int)) = true := by rw [decide_eq_true_iff]; omega
 rw [e] at HI
 unfold fldV at *
 clear e
 generalize F.m + 1 = M at *
 go_enter Tryz.func347, Tryz.ntmps347
 go_wp2_with (go_at_call 153; refine (HI _).mono ?_; rintro e w5 ⟨rfl, f0⟩)
 go_ret
 exact ⟨rfl, (Ac w _).trans (qf f0 (by simp))⟩
theorem Fu (w : WQ) (F : FD) (hF : F.Ok) (A : OQ) (n c : Nat) (x : Nat) (hx : x < F.q) : cQ 276 #[fldV F A n c, nQ x] w (RetN (F.m + 1) (digs F.p (F.m + 1) x) w) := by
 have u1 := hF.bd
 have HI := sK fun (wx : WQ) => pF wx F hF A n c x hx
 have HD := sK fun (wx : WQ) => Nj wx x F.p (F.m + 1) (by omega) (by omega) (by omega) (by omega)
 unfold fldV at *
 unfold iv at HD
 unfold RetN at *
 generalize F.m + 1 = M at *
 go_enter Tryz.func276, Tryz.ntmps276
 go_upto_region 1 with fail
 obtain ⟨W, hW, r1, a0, b0⟩ := mk1 w #[nQ F.p, nQ M, .slice A n c] 24
 rw [hW]
 clear hW
 have HC : Hid (∀ wx, From W wx -> wx.cell? ⟨w.heap.size, 0, none⟩ = some (nQ F.p) ∧ wx.cell? ⟨w.heap.size, 1, none⟩ = some (nQ M) ∧ wx.cell? ⟨w.heap.size, 2, none⟩ = some (.slice A n c)) := sK fun wx hx => ⟨(b0.below hx).c0, (b0.below hx).c1, (b0.below hx).c2⟩
 have m0 := sK a0
 clear b0 a0
 have n0 : From W W := From.refl W
 refine wpT 8 13 [.v (.agg #[nQ F.p, nQ M, .slice A n c]), .v (nQ x), .v (nQ x), .v (pQ w.heap.size), .v (nQ F.p), .v (.pointer (some ⟨w.heap.size, 1, none⟩)), .v (nQ M), .r (Gs W.heap.size M (digs F.p M x)) Gs.lasting] W (by kernel_rfl) (by kernel_rfl) (by kernel_rfl) rfl (From.drew n0) ?_
 simp only [Tk]
 iterate 7 (refine .z (fun wx hx _ hK => by first | (go_simp; exact Kz hK) | (obtain ⟨c0, c1, c2⟩ := HC wx hx; go_simp; exact Kz hK) | (go_simp; refine (HI wx).mono ?_; rintro e w' ⟨rfl, s1⟩; exact hK.out _ _ rfl s1)) ?_; simp only [Pt])
 refine .r (fun wx hx hd KK hK => ?_) (fun g4 => ?_)
 ·clear hd
  go_simp; refine (HD wx).mono ?_; rintro e w' ⟨A', c', rfl, ho, s1⟩; exact hK.out _ _ ⟨A', c', rfl, ho.mono hx.size⟩ s1
 simp only [Pt]
 refine .nil fun w3 q3 hd => ?_
 obtain ⟨t2, f3, rfl, i3⟩ := hd _ (.head _)
 clear hd
 go_wp2
 go_ret
 exact ⟨t2, f3, rfl, i3.mono (by omega), m0.trans (qf q3 (by omega))⟩
theorem Ke (w : WQ) (F : FD) (hF : F.Ok) (A : OQ) (n c : Nat) (B : OQ) (k d : Nat) (l : NQ) (hr : RdN w B k d l) (hv : val F.p l < 1000000) : cQ 277 #[fldV F A n c, .slice B k d] w (Ah (nQ (val F.p l)) w) := by
 have u1 := hF.bd
 have hp : 0 < F.p := by omega
 have v3 := hr.le63
 have l2 := sK hr.len
 have HV : Hid (∀ k, val F.p (l.drop k) < 1000000) := sK fun k => Nat.lt_of_le_of_lt (Ng F.p hp l k) hv
 have r2 : val F.p (l.drop 0) = val F.p l := by simp
 have y2 := sK r2
 clear r2
 unfold fldV
 generalize F.m + 1 = M at *
 go_enter Tryz.func277, Tryz.ntmps277
 go_upto_region 1 with fail
 obtain ⟨W, hW, r1, a0, b0⟩ := mk1 w #[nQ F.p, nQ M, .slice A n c] 24
 rw [hW]
 clear hW
 have HC : Hid (∀ wx, From W wx -> wx.cell? ⟨w.heap.size, 0, none⟩ = some (nQ F.p)) := sK fun wx hx => (b0.below hx).c0
 have m0 := sK a0
 have HR := sK hr
 clear b0 a0 hr
 have HW : Hid (∀ wx, From W wx -> From w wx) := sK fun wx hx => m0.trans (qf hx (by omega))
 go_upto_region 3 with fail
 go_loopw [5, 6] (fun xv kv wr => ∃ k9 : Nat, k9 <= k ∧ kv = .int .i64 ((k9 : Int) - 1) ∧ xv = .int .i64 (val F.p (l.drop k9) : Nat) ∧ From W wr) (fun _ kv _ => (intOf kv + 1).toNat)
 case atStart =>
  refine ⟨k, qb _, rfl, ?_, From.refl W⟩; rw [qbl (by rw [l2.out]; exact qb _)]; rfl
 case round =>
  obtain ⟨k9, hk, rfl, rfl, o2⟩ := hrel; obtain ⟨wo, rfl⟩ := xQ wr; have HF := sK o2; clear o2
  cases k9 with
  | zero =>
   have HE : Hid (val F.p (l.drop 0) = val F.p l) := y2; generalize val F.p (l.drop 0) = v0 at *; go_wp2; go_ret; exact ⟨by rw [<- HE.out]; rfl, HW _ HF.out⟩
  | succ j =>
   obtain ⟨b, j2, rfl, hb, w1⟩ := (HR.below (HW wo HF.out)).at (k := j) (by omega); have s2 := Og F.p l (k := j) (by rw [l2.out]; omega); have h1 := HV j; have h2 := HV (j + 1); have x3 := Et (a := val F.p (l.drop (j + 1))) (b := F.p) (by omega) (by omega); have hx : l.getD j 0 < 1000000 := HR.sm.at j; obtain ⟨m1, a2⟩ := xQ (val F.p (l.drop (j + 1)) * F.p); obtain ⟨x, i2⟩ := xQ (l.getD j 0); obtain ⟨v2, f2⟩ := xQ (val F.p (l.drop j)); have e2 : m1 + x = v2 := by rw [a2, i2, f2, s2, qw]; omega
   have a3 := sK f2; have e1 : IntKind.i64.wrap (((val F.p (l.drop (j + 1)) : Nat) : Int) * (F.p : Int)) = (m1 : Int) := by rw [<- Yq, <- a2]; exact Ay (by omega)
   have e3 : IntKind.i64.wrap ((m1 : Int) + (x : Int)) = (v2 : Int) := by rw [<- qal, e2]; exact Ay (by omega)
   have e4 : (((j + 1 : Nat) : Int) - 1) = (j : Int) := by omega
   rw [e4]; rw [<- i2] at w1; clear e4 a2 i2 f2 s2 e2 hx h1 HV; generalize val F.p (l.drop (j + 1)) = v1 at *; have a4 : (j : Int) < (k : Int) := by omega
   go_upto_region 5 with fail
   have u2 := sK w1; have l1 : Hid (b < wo.heap.size) := sK hb; have n0 : From wo wo := From.refl wo; clear w1; refine wpT 9 24 [.v (nQ v1), .v (pQ w.heap.size), .v (nQ F.p), .v (nQ m1), .v (.slice (some ⟨b, j2, none⟩) k d), .v (nQ j), .v (.pointer (some ⟨b, j2 + j, none⟩)), .v (nQ x), .v (nQ v2)] wo (by kernel_rfl) (by kernel_rfl) (by kernel_rfl) rfl (From.drew n0) ?_; simp only [Tk]
   iterate 9 (refine .z (fun wx hx _ hK => by first | (go_simp; exact Kz hK) | (have c0 := HC wx (Aa hx HF.out); go_simp; exact Kz hK) | (have hc := (hx.cell (p := ⟨b, j2 + j, none⟩) l1.out).trans u2.out; go_simp; exact Kz hK)) ?_; simp only [Pt])
   refine .nil fun w7 r3 _ => ?_
   go_wp2; go_roundw
   case rel => exact ⟨j, by omega, by go_num, by rw [a3.out], Aa r3 HF.out⟩
   case measure => simp [intOf] <;> omega
theorem Fq.digs_padd {p : Nat} (hp : 0 < p) : ∀ m x y i, i < m -> (digs p m (padd p m x y)).getD i 0 = ((digs p m x).getD i 0 + (digs p m y).getD i 0) % p
 | m + 1, x, y, 0, _ => by
  show padd p (m + 1) x y % p = (x % p + y % p) % p; exact Dr hp x y
 | m + 1, x, y, i + 1, h => by
  show (digs p m (padd p (m + 1) x y / p)).getD i 0 = ((digs p m (x / p)).getD i 0 + (digs p m (y / p)).getD i 0) % p; rw [Dn hp]; exact digs_padd hp m _ _ i (by omega)
theorem Fq.digs_pneg {p : Nat} (hp : 0 < p) : ∀ m x i, i < m -> (digs p m (pneg p m x)).getD i 0 = (p - (digs p m x).getD i 0) % p
 | m + 1, x, 0, _ => by
  show pneg p (m + 1) x % p = (p - x % p) % p; exact Vx hp x
 | m + 1, x, i + 1, h => by
  show (digs p m (pneg p (m + 1) x / p)).getD i 0 = (p - (digs p m (x / p)).getD i 0) % p; rw [Xb hp]; exact digs_pneg hp m _ i (by omega)
theorem nD (w : WQ) (F : FD) (hF : F.Ok) (A : OQ) (n c : Nat) (x y : Nat) (hx : x < F.q) (hy : y < F.q) : cQ 275 #[fldV F A n c, nQ x, nQ y] w (Ah (nQ (F.add x y)) w) := by
 have u1 := hF.bd
 have j1 := sK fun (wx : WQ) => Fu wx F hF A n c x hx
 have z2 := sK fun (wx : WQ) => Fu wx F hF A n c y hy
 have w0 : val F.p (digs F.p (F.m + 1) (F.add x y)) = F.add x y := Gw (by omega) _ _ (hF.add_lt x y)
 have b1 := sK fun (wx : WQ) (B : OQ) (d : Nat) (hr : RdN wx B (F.m + 1) d (digs F.p (F.m + 1) (F.add x y))) => Ke wx F hF A n c B (F.m + 1) d _ hr (by rw [w0]; have := hF.add_lt x y; omega)
 rw [w0] at b1
 have HZ : Hid (∀ i, i < F.m + 1 -> (digs F.p (F.m + 1) (F.add x y)).getD i 0 = ((digs F.p (F.m + 1) x).getD i 0 + (digs F.p (F.m + 1) y).getD i 0) % F.p) := sK (digs_padd (by omega) (F.m + 1) x y)
 have i0 := sK (Cb F.p (F.m + 1) (F.add x y))
 have g0 := sK (Cb F.p (F.m + 1) x)
 have t3 := sK (Cb F.p (F.m + 1) y)
 have q1 := sK fun i => (by
   have h1 : ∀ d ∈ digs F.p (F.m + 1) x, d < F.p := Dy (by omega) (F.m + 1) x
   by_cases h : i < (digs F.p (F.m + 1) x).length
   ·exact h1 _ (Ap h 0)
   ·rw [qa, Mq (by omega)]; exact (by omega : 0 < F.p) : (digs F.p (F.m + 1) x).getD i 0 < F.p)
 have d3 := sK fun i => (by
   have h1 : ∀ d ∈ digs F.p (F.m + 1) y, d < F.p := Dy (by omega) (F.m + 1) y
   by_cases h : i < (digs F.p (F.m + 1) y).length
   ·exact h1 _ (Ap h 0)
   ·rw [qa, Mq (by omega)]; exact (by omega : 0 < F.p) : (digs F.p (F.m + 1) y).getD i 0 < F.p)
 unfold fldV at *
 unfold RetN at *
 clear w0
 have j3 : 1 <= F.m + 1 ∧ F.m + 1 <= 8 := by omega
 generalize F.m + 1 = M at *
 generalize F.add x y = z at *
 generalize digs F.p M z = zl at *
 generalize digs F.p M x = xl at *
 generalize digs F.p M y = yl at *
 go_enter Tryz.func275, Tryz.ntmps275
 go_upto_region 1 with fail
 obtain ⟨W, hW, r1, a0, b0⟩ := mk1 w #[nQ F.p, nQ M, .slice A n c] 24
 rw [hW]
 clear hW
 have HC : Hid (∀ wx, Below (w.heap.size + 1) W wx -> wx.cell? ⟨w.heap.size, 0, none⟩ = some (nQ F.p) ∧ wx.cell? ⟨w.heap.size, 1, none⟩ = some (nQ M) ∧ wx.cell? ⟨w.heap.size, 2, none⟩ = some (.slice A n c)) := sK fun wx hx => ⟨(b0.keep hx (by omega)).c0, (b0.keep hx (by omega)).c1, (b0.keep hx (by omega)).c2⟩
 have m0 := sK a0
 clear b0 a0
 have HW : Hid (∀ wx, Below (w.heap.size + 1) W wx -> From w wx) := sK fun wx hx => m0.trans (qf hx (by omega))
 obtain ⟨c0, c1, c2⟩ := HC W (bR)
 go_upto_region 2 with (go_at_call 276; refine (j1 W).mono ?_; rintro e w2 ⟨A2, e0, rfl, f1, o0⟩)
 have z0 : Hid (Below (w.heap.size + 1) W w2) := sK (o0.mono (by omega))
 have j0 := sK (f1.mono (b' := w.heap.size + 1) (by omega))
 have p3 := o0.size
 clear f1 o0 c0 c1 c2
 obtain ⟨c0, c1, c2⟩ := HC w2 z0.out
 go_upto_region 3 with (go_at_call 276; refine (z2 w2).mono ?_; rintro e w3 ⟨A3, c3, rfl, d2, t1⟩)
 obtain ⟨g2, rfl, x1, k3⟩ := j0.block (by omega)
 obtain ⟨g3, rfl, y3, z3⟩ := d2.block (by omega)
 have k2 : Hid (Below (w.heap.size + 1) W w3) := sK (z0.trans (t1.mono (by omega)))
 have m2 := sK (j0.below t1)
 have n2 := sK d2
 have b4 : g3 ≠ g2 := by omega
 clear d2 t1 c0 c1 c2 j0 z0
 go_upto_region 4 with fail
 go_loopw [9] (fun y0 wr => ∃ i : Nat, i <= M ∧ y0 = nQ i ∧ OwnN wr (w.heap.size + 1) (sQ g2) M e0 (mixL zl xl i) ∧ OwnN wr w2.heap.size (sQ g3) M c3 yl ∧ Below (w.heap.size + 1) W wr) (fun y0 _ => M - (intOf y0).toNat)
 case atStart => exact ⟨0, qe _, rfl, by rw [Cz]; exact m2.out, n2.out, k2.out⟩
 case round =>
  obtain ⟨i, hi, rfl, hX, hY, hB⟩ := hrel; obtain ⟨wo, rfl⟩ := xQ wr; have HX := sK hX; have HY := sK hY; have HB := sK hB; clear hB m2 n2 k2
  by_cases hiM : i < M
  ·have z1 : (i : Int) < (M : Int) := by omega
   have q0 := hX.cell hiM; rw [Ep i0 g0 (qb _) hiM] at q0; have p2 := hY.cell hiM; have s3 := q1 i; have f4 := d3 i; have x0 := HZ i hiM; have r0 := hX.free i; have i1 : zl.getD i 0 < 1000000 := by rw [x0]; have := qu (xl.getD i 0 + yl.getD i 0) (show 0 < F.p by omega); omega
   have t0 := fun wx (hx : From wo wx) => (hX.below hx).set i i1
   rw [Cu i0 g0 hiM] at t0; have n1 := sK t0; have y1 : g2 < wo.heap.size := by
    obtain ⟨gb, d1, h1, h2⟩ := hX.block (by omega); simp only [qc, qd, and_true] at d1; omega
   have l3 : g3 < wo.heap.size := by
    obtain ⟨gb, d1, h1, h2⟩ := hY.block (by omega); simp only [qc, qd, and_true] at d1; omega
   clear hX hY t0 i1; generalize xl.getD i 0 = xd at *; generalize yl.getD i 0 = yd at *; generalize zl.getD i 0 = zd at *; have d4 : xd + yd <= 1000000 := by omega
   have u3 : (xd : Int) + (yd : Int) = ((xd + yd : Nat) : Int) := by omega
   have e2 := Cg (xd + yd) F.p; rw [<- x0] at e2; generalize xd + yd = ud at *; have e1 : IntKind.i64.wrap (ud : Int) = (ud : Int) := Ay (by omega); have o3 : ¬ F.p = 0 := by omega
   have n3 : 2 <= (F.p : Int) := by omega
   clear x0; go_upto_region 6 with fail
   have n0 : From wo wo := From.refl wo; have a1 := sK q0; have x2 := sK p2; have k1 := sK r0; have l0 : Hid (g2 < wo.heap.size) := sK y1; have l1 : Hid (g3 < wo.heap.size) := sK l3; have g1 : w.heap.size + 1 <= wo.heap.size := by omega
   clear q0 p2 r0; refine wpT 15 40 [.v (.slice (sQ g2) M e0), .v (nQ i), .v (.slice (sQ g2) M e0), .v (nQ i), .v (.pointer (some ⟨g2, i, none⟩)), .v (nQ xd), .v (.slice (sQ g3) M c3), .v (nQ i), .v (.pointer (some ⟨g3, i, none⟩)), .v (nQ yd), .v (nQ ud), .v (pQ w.heap.size), .v (nQ F.p), .v (nQ zd), .v (.pointer (some ⟨g2, i, none⟩))] wo (by kernel_rfl) (by kernel_rfl) (by kernel_rfl) rfl (From.drew n0) ?_; simp only [Tk]
   iterate 15 (refine .z (fun wx hx _ hK => by first | (go_simp; exact Kz hK) | (have hc := (hx.cell (p := ⟨g2, i, none⟩) l0.out).trans a1.out; go_simp; exact Kz hK) | (have hc := (hx.cell (p := ⟨g3, i, none⟩) l1.out).trans x2.out; go_simp; exact Kz hK) | (obtain ⟨c0, c1, c2⟩ := HC wx (HB.trans (qf hx g1)); go_simp; exact Kz hK)) ?_; simp only [Pt])
   refine .nil fun w5 d0 _ => ?_
   have m3 := (d0.cell (p := ⟨g2, i, none⟩) l0.out).trans a1.out; have r0 := (d0.frozen (p := ⟨g2, i, none⟩) l0.out).trans k1.out; go_wp2; go_roundw
   case rel => exact ⟨i + 1, by omega, by go_num, n1 _ d0, (HY.below d0).far (r := g2) (by omega) i (nQ zd), (HB.trans (qf d0 g1)).setCell (p := ⟨g2, i, none⟩) x1 _⟩
   case measure => simp [intOf] <;> omega
  ·obtain rfl : i = M := by omega
   have z1 : decide ((i : Int) < (i : Int)) = false := by simp
   rw [Dp i0 g0.out] at hX; have o1 := sK (b1 wo (sQ g2) e0 hX.rd); obtain ⟨c0, c1, c2⟩ := HC wo HB.out; clear hX hY; go_wp2_with (go_at_call 277; refine o1.mono ?_; rintro e w5 ⟨rfl, f0⟩); go_ret; exact ⟨rfl, Aa f0 (HW wo HB.out)⟩
theorem jQ (w : WQ) (F : FD) (hF : F.Ok) (A : OQ) (n c : Nat) (x : Nat) (hx : x < F.q) : cQ 158 #[fldV F A n c, nQ x] w (Ah (nQ (F.neg x)) w) := by
 have u1 := hF.bd
 have j1 := sK fun (wx : WQ) => Fu wx F hF A n c x hx
 have w0 : val F.p (digs F.p (F.m + 1) (F.neg x)) = F.neg x := Gw (by omega) _ _ (hF.neg_lt x)
 have b1 := sK fun (wx : WQ) (B : OQ) (d : Nat) (hr : RdN wx B (F.m + 1) d (digs F.p (F.m + 1) (F.neg x))) => Ke wx F hF A n c B (F.m + 1) d _ hr (by rw [w0]; have := hF.neg_lt x; omega)
 rw [w0] at b1
 have HZ : Hid (∀ i, i < F.m + 1 -> (digs F.p (F.m + 1) (F.neg x)).getD i 0 = (F.p - (digs F.p (F.m + 1) x).getD i 0) % F.p) := sK (digs_pneg (by omega) (F.m + 1) x)
 have i0 := sK (Cb F.p (F.m + 1) (F.neg x))
 have g0 := sK (Cb F.p (F.m + 1) x)
 have q1 := sK fun i => (by
   have h1 : ∀ d ∈ digs F.p (F.m + 1) x, d < F.p := Dy (by omega) (F.m + 1) x
   by_cases h : i < (digs F.p (F.m + 1) x).length
   ·exact h1 _ (Ap h 0)
   ·rw [qa, Mq (by omega)]; exact (by omega : 0 < F.p) : (digs F.p (F.m + 1) x).getD i 0 < F.p)
 unfold fldV at *
 unfold RetN at *
 clear w0
 have j3 : 1 <= F.m + 1 ∧ F.m + 1 <= 8 := by omega
 generalize F.m + 1 = M at *
 generalize F.neg x = z at *
 generalize digs F.p M z = zl at *
 generalize digs F.p M x = xl at *
 go_enter Tryz.func158, Tryz.ntmps158
 go_upto_region 1 with fail
 obtain ⟨W, hW, r1, a0, b0⟩ := mk1 w #[nQ F.p, nQ M, .slice A n c] 24
 rw [hW]
 clear hW
 have HC : Hid (∀ wx, Below (w.heap.size + 1) W wx -> wx.cell? ⟨w.heap.size, 0, none⟩ = some (nQ F.p) ∧ wx.cell? ⟨w.heap.size, 1, none⟩ = some (nQ M) ∧ wx.cell? ⟨w.heap.size, 2, none⟩ = some (.slice A n c)) := sK fun wx hx => ⟨(b0.keep hx (by omega)).c0, (b0.keep hx (by omega)).c1, (b0.keep hx (by omega)).c2⟩
 have m0 := sK a0
 clear b0 a0
 have HW : Hid (∀ wx, Below (w.heap.size + 1) W wx -> From w wx) := sK fun wx hx => m0.trans (qf hx (by omega))
 obtain ⟨c0, c1, c2⟩ := HC W (bR)
 go_upto_region 2 with (go_at_call 276; refine (j1 W).mono ?_; rintro e w2 ⟨A2, e0, rfl, f1, o0⟩)
 have z0 : Hid (Below (w.heap.size + 1) W w2) := sK (o0.mono (by omega))
 have j0 := sK (f1.mono (b' := w.heap.size + 1) (by omega))
 have p3 := o0.size
 clear f1 o0 c0 c1 c2
 obtain ⟨g2, rfl, x1, k3⟩ := j0.block (by omega)
 go_upto_region 3 with fail
 go_loopw [6] (fun y0 wr => ∃ i : Nat, i <= M ∧ y0 = nQ i ∧ OwnN wr (w.heap.size + 1) (sQ g2) M e0 (mixL zl xl i) ∧ Below (w.heap.size + 1) W wr) (fun y0 _ => M - (intOf y0).toNat)
 case atStart => exact ⟨0, qe _, rfl, by rw [Cz]; exact j0.out, z0.out⟩
 case round =>
  obtain ⟨i, hi, rfl, hX, hB⟩ := hrel; obtain ⟨wo, rfl⟩ := xQ wr; have HX := sK hX; have HB := sK hB; clear hB j0 z0
  by_cases hiM : i < M
  ·have z1 : (i : Int) < (M : Int) := by omega
   have q0 := hX.cell hiM; rw [Ep i0 g0 (qb _) hiM] at q0; have s3 := q1 i; have x0 := HZ i hiM; have r0 := hX.free i; have i1 : zl.getD i 0 < 1000000 := by rw [x0]; have := qu (F.p - xl.getD i 0) (show 0 < F.p by omega); omega
   have t0 := fun wx (hx : From wo wx) => (hX.below hx).set i i1
   rw [Cu i0 g0 hiM] at t0; have n1 := sK t0; have y1 : g2 < wo.heap.size := by
    obtain ⟨gb, d1, h1, h2⟩ := hX.block (by omega); simp only [qc, qd, and_true] at d1; omega
   clear hX t0 i1; generalize xl.getD i 0 = xd at *; generalize zl.getD i 0 = zd at *; have e1 : IntKind.i64.wrap ((F.p : Int) - (xd : Int)) = ((F.p - xd : Nat) : Int) := by rw [show (F.p : Int) - (xd : Int) = ((F.p - xd : Nat) : Int) by omega]; exact Ay (by omega)
   have e2 := Cg (F.p - xd) F.p; rw [<- x0] at e2; generalize F.p - xd = ud at *; have o3 : ¬ F.p = 0 := by omega
   have n3 : 2 <= (F.p : Int) := by omega
   clear x0; go_upto_region 5 with fail
   have n0 : From wo wo := From.refl wo; have a1 := sK q0; have k1 := sK r0; have l0 : Hid (g2 < wo.heap.size) := sK y1; have g1 : w.heap.size + 1 <= wo.heap.size := by omega
   clear q0 r0; refine wpT 13 32 [.v (.slice (sQ g2) M e0), .v (nQ i), .v (pQ w.heap.size), .v (nQ F.p), .v (.slice (sQ g2) M e0), .v (nQ i), .v (.pointer (some ⟨g2, i, none⟩)), .v (nQ xd), .v (nQ ud), .v (pQ w.heap.size), .v (nQ F.p), .v (nQ zd), .v (.pointer (some ⟨g2, i, none⟩))] wo (by kernel_rfl) (by kernel_rfl) (by kernel_rfl) rfl (From.drew n0) ?_; simp only [Tk]
   iterate 13 (refine .z (fun wx hx _ hK => by first | (go_simp; exact Kz hK) | (obtain ⟨c0, c1, c2⟩ := HC wx (HB.trans (qf hx g1)); go_simp; exact Kz hK) | (have hc := (hx.cell (p := ⟨g2, i, none⟩) l0.out).trans a1.out; go_simp; exact Kz hK)) ?_; simp only [Pt])
   refine .nil fun w5 d0 _ => ?_
   have m3 := (d0.cell (p := ⟨g2, i, none⟩) l0.out).trans a1.out; have r0 := (d0.frozen (p := ⟨g2, i, none⟩) l0.out).trans k1.out; go_wp2; go_roundw
   case rel => exact ⟨i + 1, by omega, by go_num, n1 _ d0, (HB.trans (qf d0 g1)).setCell (p := ⟨g2, i, none⟩) x1 _⟩
   case measure => simp [intOf] <;> omega
  ·obtain rfl : i = M := by omega
   have z1 : decide ((i : Int) < (i : Int)) = false := by simp
   rw [Dp i0 g0.out] at hX; have o1 := sK (b1 wo (sQ g2) e0 hX.rd); obtain ⟨c0, c1, c2⟩ := HC wo HB.out; clear hX; go_wp2_with (go_at_call 277; refine o1.mono ?_; rintro e w5 ⟨rfl, f0⟩); go_ret; exact ⟨rfl, Aa f0 (HW wo HB.out)⟩
section
namespace Fq
def X1 (F : FD) (x : Nat) : Nat := mX F.p F.m F.v x
def EV (F : FD) (l : NQ) : Nat := l.foldr (fun c m0 => F.add c (X1 F m0)) 0
def xk (F : FD) : Nat -> Nat -> Nat
 | 0, x => x
 | i + 1, x => X1 F (xk F i x)
def sm (F : FD) (k x : Nat) : Nat := smul F.p (F.m + 1) k x
theorem Qb {p : Nat} (hp : 0 < p) (m k x : Nat) : ∀ j, smul p m (j * k) x = smul p m j (smul p m k x)
 | 0 => by rw [Nat.zero_mul, Di hp, Di hp]
 | j + 1 => by rw [qcl, qbv, El hp, El hp, Qb hp m k x j, Em hp (Dl hp _ _ _)]
section
variable {F : FD} (h : F.Ok)
include h
theorem cI (x : Nat) : X1 F x < F.q := Ws h.p0 _ _
theorem Tm : X1 F 0 = 0 := (Gp h.p0 F.v).zero h.p0
theorem Ua {x y : Nat} (hx : x < F.q) (hy : y < F.q) : X1 F (F.add x y) = F.add (X1 F x) (X1 F y) := (Gp h.p0 F.v).2 x y hx hy
theorem kJ (k : Nat) {x : Nat} (hx : x < F.q) : X1 F (sm F k x) = sm F k (X1 F x) := (Gp h.p0 F.v).smul h.p0 hx k
theorem Iy (k x : Nat) : sm F k x < F.q := Dl h.p0 _ _ _
theorem bP (k x y : Nat) : sm F k (F.add x y) = F.add (sm F k x) (sm F k y) := Jc h.p0 _ _ _ _
theorem jN (j k x : Nat) : sm F (j * k) x = sm F j (sm F k x) := Qb h.p0 _ _ _ _
theorem kC (k x : Nat) : sm F (k % F.p) x = sm F k x := Gy h.p0 _ _ _
theorem Jw {x : Nat} (hx : x < F.q) : ∀ i, xk F i x < F.q
 | 0 => hx
 | i + 1 => cI h _
theorem Tu : ∀ i, xk F i 0 = 0
 | 0 => rfl
 | i + 1 => by rw [xk, Tu i, Tm h]
theorem Sz {x y : Nat} (hx : x < F.q) (hy : y < F.q) : ∀ i, xk F i (F.add x y) = F.add (xk F i x) (xk F i y)
 | 0 => rfl
 | i + 1 => by rw [xk, Sz hx hy i, Ua h (Jw h hx i) (Jw h hy i)]; rfl
theorem Uh (k : Nat) {x : Nat} (hx : x < F.q) : ∀ i, xk F i (sm F k x) = sm F k (xk F i x)
 | 0 => rfl
 | i + 1 => by rw [xk, Uh k hx i, kJ h k (Jw h hx i)]; rfl
omit h in
theorem dH (x j : Nat) : ∀ i, xk F (i + j) x = xk F i (xk F j x)
 | 0 => by rw [Zq]; rfl
 | i + 1 => by rw [show i + 1 + j = (i + j) + 1 by omega, xk, dH x j i]; rfl
theorem Ip (l : NQ) : EV F l < F.q := by
 cases l with
 | nil => exact h.fldOk.q0
 | cons c t => exact h.add_lt _ _
theorem jO (n : Nat) : EV F (List.replicate n 0) = 0 := by
 induction n with
 | zero => rfl
 | succ n ih =>
  show F.add 0 (X1 F (EV F (List.replicate n 0))) = 0; rw [ih, Tm h]; exact h.fldOk.add0 0 h.fldOk.q0
theorem cZ (c : Nat) (hc : c < F.p) : ∀ l : NQ, (∀ x ∈ l, x < F.p) -> EV F (l ++ [c]) = F.add (EV F l) (sm F c (xk F l.length 1))
 | [], _ => by
  have h1 : (1 : Nat) < F.p := h.p1; show F.add c (X1 F 0) = F.add 0 (sm F c 1); have e : sm F c 1 = c := by unfold sm; rw [h.small_smul c h1, qbw, Bq hc]
  rw [Tm h, e]; have hq := h.p_le_q; exact h.fldOk.addC _ _ (qk hc hq) h.fldOk.q0
 | d :: t, hl => by
  have h1 : (1 : Nat) < F.q := by have := h.q2; omega
  show F.add d (X1 F (EV F (t ++ [c]))) = F.add (F.add d (X1 F (EV F t))) (sm F c (xk F (t.length + 1) 1)); rw [cZ c hc t (fun x hx => hl x (by simp [hx])), Ua h (Ip h t) (Iy h _ _), kJ h c (Jw h h1 _)]; exact (h.fldOk.addA _ _ _ (qk (hl d (by simp)) h.p_le_q) (cI h _) (Iy h _ _)).symm
theorem Zx (d : Nat) : ∀ (l : NQ) (k : Nat), k < l.length -> (∀ x ∈ l, x < F.p) -> EV F (l.set k ((l.getD k 0 + d) % F.p)) = F.add (EV F l) (sm F d (xk F k 1))
 | c :: t, 0, _, hl => by
  have hc := hl c (by simp); have h1 : (1 : Nat) < F.p := h.p1; have hp := h.p0; have hq := h.p_le_q; show F.add ((c + d) % F.p) (X1 F (EV F t)) = F.add (F.add c (X1 F (EV F t))) (sm F d 1); have e : sm F d 1 = d % F.p := by unfold sm; rw [h.small_smul d h1, qbw]
  have f0 : d % F.p < F.p := qu _ hp; have e2 : (c + d) % F.p = F.add c (d % F.p) := by rw [FD.small_add hc f0, Nat.add_mod, Bq hc]
  have e0 : c < F.q := qk hc hq; have b0 : d % F.p < F.q := qk f0 hq; have hX := cI h (EV F t); rw [e, e2]; have o := h.fldOk; have a1 := o.addA c (d % F.p) (X1 F (EV F t)) e0 b0 hX; have a2 := o.addA c (X1 F (EV F t)) (d % F.p) e0 hX b0; have a3 := o.addC (d % F.p) (X1 F (EV F t)) b0 hX; show F.fld.add (F.fld.add c (d % F.p)) (X1 F (EV F t)) = F.fld.add (F.fld.add c (X1 F (EV F t))) (d % F.p); rw [a1, a2, a3]
 | c :: t, k + 1, hk, hl => by
  have h1 : (1 : Nat) < F.q := by have := h.q2; omega
  have o0 : k < t.length := by simpa using hk
  show F.add c (X1 F (EV F (t.set k ((t.getD k 0 + d) % F.p)))) = F.add (F.add c (X1 F (EV F t))) (sm F d (xk F (k + 1) 1)); rw [Zx d t k o0 (fun x hx => hl x (by simp [hx])), Ua h (Ip h t) (Iy h _ _), kJ h d (Jw h h1 _)]; exact (h.fldOk.addA _ _ _ (qk (hl c (by simp)) h.p_le_q) (cI h _) (Iy h _ _)).symm
theorem It : ∀ (l : NQ) (n : Nat), l.length <= n -> n <= F.m + 1 -> (∀ x ∈ l, x < F.p) -> EV F l = val F.p l
 | [], _, _, _, _ => rfl
 | c :: t, 0, h1, _, _ => absurd h1 (by simp)
 | c :: t, n + 1, h1, h2, hl => by
  have hp := h.p0; have ht := It t n (by simpa using h1) (by omega) (fun x hx => hl x (by simp [hx])); have z0 : val F.p t < F.p ^ t.length := Yh hp t (fun x hx => hl x (by simp [hx])); have l0 : val F.p t < F.p ^ F.m := qk z0 (qy hp (by simp at h1; omega)); show F.add c (X1 F (EV F t)) = c + F.p * val F.p t; rw [ht]; unfold X1; rw [Hk hp l0]; have hc := hl c (by simp); unfold FD.add; rw [padd, Bq hc, qag hc, qat, qcd, Bq hc, qab _ hp, Gi hp l0]
theorem lB {x y : Nat} (hx : x < F.q) (hy : y < F.q) : ∀ i, F.mul (xk F i x) y = xk F i (F.mul x y)
 | 0 => rfl
 | i + 1 => by
  rw [xk, xk, <- lB hx hy i]; exact (Fq.jK h.p1 (Jw h hx i) y).symm
theorem rR (k : Nat) {x : Nat} (hx : x < F.q) (y : Nat) : F.mul (sm F k x) y = sm F k (F.mul x y) :=
 Add.smul h.p0 (f := fun z => F.mul z y) ⟨fun z _ => h.mul_lt z y, fun z u hz hu => Fq.Tr h.p1 hz hu⟩ hx k
end
def cvJ (p i ai : Nat) (b c : NQ) : Nat -> NQ
 | 0 => c
 | j + 1 => (cvJ p i ai b c j).set (i + j) (((cvJ p i ai b c j).getD (i + j) 0 + ai * b.getD j 0) % p)
def cvI (p M : Nat) (a b : NQ) : Nat -> NQ
 | 0 => List.replicate (2 * M - 1) 0
 | i + 1 => cvJ p i (a.getD i 0) b (cvI p M a b i) M
def rdI (p M : Nat) (mod c : NQ) : Nat -> NQ
 | 0 => c
 | k + 1 => dvJ p ((rdI p M mod c k).getD (2 * M - 2 - k) 0) mod (2 * M - 2 - k - M) (rdI p M mod c k) M
theorem Nw (p i ai : Nat) (b c : NQ) : ∀ j, (cvJ p i ai b c j).length = c.length
 | 0 => rfl
 | j + 1 => by rw [cvJ, qai, Nw]
theorem Te {p : Nat} (hp : 0 < p) (i ai : Nat) (b : NQ) {c : NQ} (hc : ∀ x ∈ c, x < p) : ∀ j, ∀ x ∈ cvJ p i ai b c j, x < p
 | 0 => hc
 | j + 1 => fun x hx => by
  rw [cvJ] at hx
  rcases Oq hx with h | h
  ·exact Te hp i ai b hc j x h
  ·rw [h]; exact qu _ hp
theorem Ob (p M : Nat) (a b : NQ) : ∀ i, (cvI p M a b i).length = 2 * M - 1
 | 0 => by simp [cvI]
 | i + 1 => by rw [cvI, Nw, Ob]
theorem Tt {p : Nat} (hp : 0 < p) (M : Nat) (a b : NQ) : ∀ i, ∀ x ∈ cvI p M a b i, x < p
 | 0 => fun x hx => by rw [(qav.1 hx).2]; exact hp
 | i + 1 => Te hp _ _ _ (Tt hp M a b i) _
theorem Nu (p M : Nat) (mod c : NQ) : ∀ k, (rdI p M mod c k).length = c.length
 | 0 => rfl
 | k + 1 => by rw [rdI, Jf, Nu]
theorem Sp {p : Nat} (hp : 0 < p) (M : Nat) (mod : NQ) {c : NQ} (hc : ∀ x ∈ c, x < p) : ∀ k, ∀ x ∈ rdI p M mod c k, x < p
 | 0 => hc
 | k + 1 => Ly hp _ _ _ (Sp hp M mod hc k) _
theorem gB (l : NQ) {k : Nat} (hk : k < l.length) : l.take (k + 1) = l.take k ++ [l.getD k 0] := by
 rw [qae hk, qa, qh hk]; rfl
theorem Uz (p c : Nat) (low : NQ) (base : Nat) (r : NQ) (i : Nat) : ∀ j, base + j <= i -> (dvJ p c low base r j).take i = dvJ p c low base (r.take i) j
 | 0, _ => rfl
 | j + 1, hj => by
  have e : ((dvJ p c low base r j).take i).getD (base + j) 0 = (dvJ p c low base r j).getD (base + j) 0 := by rw [qa, qa, List.getElem?_take_of_lt (by omega)]
  rw [dvJ, dvJ, <- Uz p c low base r i j (by omega), List.take_set, e]
section
variable {F : FD} (h : F.Ok)
include h
theorem Lv {p : Nat} (hp : 0 < p) {l : NQ} (hl : ∀ x ∈ l, x < p) (i : Nat) : l.getD i 0 < p := by
 by_cases hi : i < l.length
 ·rw [qa, qh hi]; exact hl _ (qcb hi)
 ·rw [qa, Mq (by omega)]; exact hp
theorem Nt {l : NQ} (hl : ∀ x ∈ l, x < F.p) {k : Nat} (hk : k < l.length) : EV F (l.take (k + 1)) = F.add (EV F (l.take k)) (sm F (l.getD k 0) (xk F k 1)) := by
 rw [gB l hk, cZ h _ (Lv h h.p0 hl k) _ (fun x hx => hl x (qbu hx)), Sq, qci (by omega)]
theorem jA (i ai : Nat) {b c : NQ} (hb : ∀ x ∈ b, x < F.p) (hc : ∀ x ∈ c, x < F.p) (hl : i + b.length <= c.length) : ∀ j, j <= b.length -> EV F (cvJ F.p i ai b c j) = F.add (EV F c) (sm F ai (xk F i (EV F (b.take j))))
 | 0, _ => by
  rw [List.take_zero]; show EV F c = F.add (EV F c) (sm F ai (xk F i 0)); rw [Tu h]; unfold sm; rw [Fh h.p0]; exact (h.fldOk.add0 _ (Ip h c)).symm
 | j + 1, hj => by
  have h1 : (1 : Nat) < F.q := by have := h.q2; omega
  rw [cvJ, Zx h _ _ _ (by rw [Nw]; omega) (Te h.p0 i ai b hc j), jA i ai hb hc hl j (by omega), Nt h hb (by omega), Sz h (Ip h _) (Iy h _ _), bP h, Uh h _ (Jw h h1 _), <- dH, <- jN h]; exact h.fldOk.addA _ _ _ (Ip h c) (Iy h _ _) (Iy h _ _)
theorem iD {a b : NQ} (ha : ∀ x ∈ a, x < F.p) (hb : ∀ x ∈ b, x < F.p) (hla : a.length = F.m + 1) (hlb : b.length = F.m + 1) : ∀ i, i <= F.m + 1 -> EV F (cvI F.p (F.m + 1) a b i) = F.mul (EV F (a.take i)) (EV F b)
 | 0, _ => by
  rw [List.take_zero]; show EV F (List.replicate _ 0) = F.mul 0 (EV F b); rw [jO h, h.zero_mul]
 | i + 1, hi => by
  have h1 : (1 : Nat) < F.q := by have := h.q2; omega
  rw [cvI, jA h i (a.getD i 0) hb (Tt h.p0 _ a b i) (by rw [Ob, hlb]; omega) (F.m + 1) (by omega), iD ha hb hla hlb i (by omega), Nt h ha (by omega)]; have e1 : F.mul (F.add (EV F (a.take i)) (sm F (a.getD i 0) (xk F i 1))) (EV F b) = F.add (F.mul (EV F (a.take i)) (EV F b)) (F.mul (sm F (a.getD i 0) (xk F i 1)) (EV F b)) := Fq.Tr h.p1 (Ip h _) (Iy h _ _); rw [e1, rR h _ (Jw h h1 _), lB h h1 (Ip h b), h.one_mul (Ip h b), qq (l := b) (by omega)]
theorem kY (r : Nat) {low l : NQ} (base : Nat) (hlow : ∀ x ∈ low, x < F.p) (hl : ∀ x ∈ l, x < F.p) (hn : base + low.length <= l.length) : ∀ j, j <= low.length -> EV F (dvJ F.p r low base l j) = F.add (EV F l) (sm F (F.p - r) (xk F base (EV F (low.take j))))
 | 0, _ => by
  rw [List.take_zero]; show EV F l = F.add (EV F l) (sm F (F.p - r) (xk F base 0)); rw [Tu h]; unfold sm; rw [Fh h.p0]; exact (h.fldOk.add0 _ (Ip h l)).symm
 | j + 1, hj => by
  have h1 : (1 : Nat) < F.q := by have := h.q2; omega
  rw [dvJ, Zx h _ _ _ (by rw [Jf]; omega) (Ly h.p0 r low base hl j), kY r base hlow hl hn j (by omega), Nt h hlow (by omega), Sz h (Ip h _) (Iy h _ _), bP h, Uh h _ (Jw h h1 _), <- dH, <- jN h]; exact h.fldOk.addA _ _ _ (Ip h l) (Iy h _ _) (Iy h _ _)
theorem rB (k : Nat) : sm F k (xk F (F.m + 1) 1) = sm F (k * (F.p - 1)) F.v := by
 have hp := h.p0
 have key : ∀ i, i <= F.m -> xk F i 1 = F.p ^ i := fun i => by
  induction i with
  | zero => intro _; rfl
  | succ i ih =>
   intro hi; rw [xk, ih (by omega)]; unfold X1; rw [Hk hp (qax h.p1 (by omega)), qr, qw]
 rw [xk, key F.m (qb _)]
 unfold X1 mX
 have x0 : 0 < F.p ^ F.m := qbd hp
 rw [Nat.mod_self, qce, Nat.div_self x0, Gi hp (Dl hp _ _ _)]
 exact (jN h k (F.p - 1) F.v).symm
theorem mA {mod c : NQ} (hc : ∀ x ∈ c, x < F.p) (hm : mod = digs F.p (F.m + 1) F.v) (hl : c.length = 2 * (F.m + 1) - 1) : ∀ k, k <= F.m -> EV F ((rdI F.p (F.m + 1) mod c k).take (2 * (F.m + 1) - 1 - k)) = EV F c
 | 0, _ => by rw [Nat.sub_zero, qq (by rw [Nu]; omega)]; rfl
 | k + 1, hk => by
  have hp := h.p0; have ih := mA hc hm hl k (by omega); have v0 : mod.length = F.m + 1 := by rw [hm, Cb]
  have i0 : ∀ x ∈ mod, x < F.p := by rw [hm]; exact Dy hp _ _
  have a0 := Sp hp (F.m + 1) mod hc k; have c1 : (rdI F.p (F.m + 1) mod c k).length = 2 * (F.m + 1) - 1 := by rw [Nu, hl]
  obtain ⟨i, hi⟩ := xQ (2 * (F.m + 1) - 2 - k); have eN : 2 * (F.m + 1) - 1 - k = i + 1 := by omega
  have n0 : 2 * (F.m + 1) - 1 - (k + 1) = i := by omega
  have b1 : F.m + 1 <= i := by omega
  rw [eN, Nt h a0 (by omega)] at ih; rw [n0, rdI, <- hi]; generalize rdI F.p (F.m + 1) mod c k = r at *; have j0 : r.getD i 0 < F.p := Lv h hp a0 i; have y0 : ∀ x ∈ r.take i, x < F.p := fun x hx => a0 x (qbu hx)
  rw [Uz _ _ _ _ _ _ _ (by omega), kY h _ _ i0 y0 (by rw [Sq, v0, qci (by omega)]; omega) _ (by omega), qq (l := mod) (by omega), <- ih]
  congr 1
  have hv : EV F mod = F.v := by
   rw [It h mod (F.m + 1) (by omega) (qb _) i0, hm]; exact Gw hp _ _ h.vq
  have h1 : (1 : Nat) < F.q := by have := h.q2; omega
  rw [hv, <- Uh h _ h.vq]; have e1 : xk F i 1 = xk F (i - (F.m + 1)) (xk F (F.m + 1) 1) := by rw [<- dH, show i - (F.m + 1) + (F.m + 1) = i by omega]
  rw [e1, <- Uh h _ (Jw h h1 _), rB h]
  congr 1
  rw [<- kC h (F.p - r.getD i 0), <- kC h (r.getD i 0 * (F.p - 1))]
  congr 1
  generalize r.getD i 0 = t at j0
  by_cases ht : t = 0
  ·subst ht; simp
  ·have e3 : t * (F.p - 1) = (t - 1) * F.p + (F.p - t) := by
    obtain ⟨t', rfl⟩ : ∃ t', t = t' + 1 := ⟨t - 1, by omega⟩
    obtain ⟨p', w0⟩ : ∃ p', F.p = p' + 1 := ⟨F.p - 1, by omega⟩
    rw [w0] at j0 ⊢; simp only [Nat.add_sub_cancel]; rw [qcl, qcy]; omega
   rw [e3, qw, Nat.mul_add_mod]
theorem eJ {x y : Nat} (hx : x < F.q) (hy : y < F.q) (mod : NQ) (hm : F.m ≠ 0 -> mod = digs F.p (F.m + 1) F.v) : val F.p ((rdI F.p (F.m + 1) mod (cvI F.p (F.m + 1) (digs F.p (F.m + 1) x) (digs F.p (F.m + 1) y) (F.m + 1)) F.m).take (F.m + 1)) = F.mul x y := by
 have hp := h.p0
 have g0 := Dy hp (F.m + 1) x
 have h0 := Dy hp (F.m + 1) y
 have r0 := Cb F.p (F.m + 1) x
 have t0 := Cb F.p (F.m + 1) y
 have e1 := iD h g0 h0 r0 t0 (F.m + 1) (qb _)
 rw [qq (by omega), It h _ (F.m + 1) (by omega) (qb _) g0, It h _ (F.m + 1) (by omega) (qb _) h0, Gw hp _ _ hx, Gw hp _ _ hy] at e1
 have c0 := Tt hp (F.m + 1) (digs F.p (F.m + 1) x) (digs F.p (F.m + 1) y) (F.m + 1)
 have d0 := Ob F.p (F.m + 1) (digs F.p (F.m + 1) x) (digs F.p (F.m + 1) y) (F.m + 1)
 generalize cvI F.p (F.m + 1) (digs F.p (F.m + 1) x) (digs F.p (F.m + 1) y) (F.m + 1) = c at *
 rw [<- e1]
 have a0 : ∀ x ∈ (rdI F.p (F.m + 1) mod c F.m).take (F.m + 1), x < F.p := fun x hx => Sp hp (F.m + 1) mod c0 F.m x (qbu hx)
 rw [<- It h _ (F.m + 1) (by rw [Sq]; exact Nat.min_le_left _ _) (qb _) a0]
 by_cases hm0 : F.m = 0
 ·rw [hm0]
  show EV F (c.take 1) = EV F c; rw [qq (by rw [d0, hm0]; exact qb _)]
 ·have := mA h c0 (hm hm0) d0 F.m (qb _)
  rwa [show 2 * (F.m + 1) - 1 - F.m = F.m + 1 by omega] at this
end
end Fq
end
end Go.Proofs.YtoalkldfhkabnaaGreatDoor
