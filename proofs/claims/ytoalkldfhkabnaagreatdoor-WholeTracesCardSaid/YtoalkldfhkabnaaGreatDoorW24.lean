/- Part of WholeTraces. -/
import Derived.Test.YtoalkldfhkabnaaGreatDoorW00
import Derived.Test.YtoalkldfhkabnaaGreatDoorW10
import Derived.Test.YtoalkldfhkabnaaGreatDoorW23
set_option linter.all false
set_option maxRecDepth 10000
set_option maxHeartbeats 16000000
namespace Go.Proofs.YtoalkldfhkabnaaGreatDoor
open Go.RowKit Fq
theorem cS (p c : Nat) (low : NQ) (base : Nat) (r : NQ) (I : Nat) : ∀ j, base + j <= I -> (dvJ p c low base r j).getD I 0 = r.getD I 0
 | 0, _ => rfl
 | j + 1, hj => by
  rw [dvJ, <- cS p c low base r I j (by omega), qa, qa, qbf (by omega), <- qa]
set_option maxRecDepth 20000 in
theorem Pz (w : WQ) (F : FD) (hF : F.Ok) (A : OQ) (c : Nat) (hmod : RdN w A (modL F).length c (modL F)) (x y : Nat) (hx : x < F.q) (hy : y < F.q) : cQ 274 #[Ax F A c, nQ x, nQ y] w (Ah (nQ (F.mul x y)) w) := by
 obtain ⟨i0, hi, e5, g5, h5⟩ := info_parts Bj
 have v5 := hF.bd
 have g0 : 0 < F.p := by omega
 have l0 := sK fun (wx : WQ) => Fu wx F hF A (modL F).length c x hx
 have m0 := sK fun (wx : WQ) => Fu wx F hF A (modL F).length c y hy
 obtain ⟨M, hM⟩ := xQ (F.m + 1)
 obtain ⟨xl, q1⟩ := xQ (digs F.p M x)
 obtain ⟨yl, r1⟩ := xQ (digs F.p M y)
 obtain ⟨ml, z0⟩ := xQ (modL F)
 have s3 : F.m ≠ 0 -> ml = digs F.p (F.m + 1) F.v := fun h => by rw [z0]; unfold modL; rw [if_neg h]
 obtain ⟨CI, v0⟩ : ∃ CI : Nat -> NQ, CI = cvI F.p M xl yl := ⟨_, rfl⟩
 obtain ⟨RI, w0⟩ : ∃ RI : Nat -> NQ, RI = rdI F.p M ml (CI M) := ⟨_, rfl⟩
 have v1 : Hid (val F.p ((RI F.m).take M) = F.mul x y) := sK (by rw [w0, v0, q1, r1, hM]; exact eJ hF hx hy ml s3)
 have s1 : Hid (∀ i, (CI i).length = 2 * M - 1) := sK (by rw [v0]; exact Ob F.p M xl yl)
 have x2 : Hid (∀ i, ∀ z ∈ CI i, z < F.p) := sK (by rw [v0]; exact Tt g0 M xl yl)
 have a4 : Hid (∀ i, CI (i + 1) = cvJ F.p i (xl.getD i 0) yl (CI i) M) := sK fun i => by rw [v0]; rfl
 have t2 : Hid (CI 0 = List.replicate (2 * M - 1) 0) := sK (by rw [v0]; rfl)
 have y1 : Hid (∀ k, (RI k).length = 2 * M - 1) := sK fun k => by rw [w0, Nu]; exact s1 M
 have d3 : Hid (∀ k, ∀ z ∈ RI k, z < F.p) := sK (by rw [w0]; exact Sp g0 M ml (x2 M))
 have k4 : Hid (∀ k, RI (k + 1) = dvJ F.p ((RI k).getD (2 * M - 2 - k) 0) ml (2 * M - 2 - k - M) (RI k) M) := sK fun k => by rw [w0]; rfl
 have h4 : Hid (RI 0 = CI M) := sK (by rw [w0]; rfl)
 have g6 := hF.mul_lt x y
 have t0 := sK fun (wx : WQ) (B : OQ) (d : Nat) (hr : RdN wx B M d ((RI F.m).take M)) => Ke wx F hF A (modL F).length c B M d _ hr (by rw [v1.out]; omega)
 rw [v1.out] at t0
 rw [<- z0] at l0 m0 t0 hmod
 rw [<- hM] at l0 m0
 rw [<- q1] at l0
 rw [<- r1] at m0
 have l4 : Hid (∀ i, xl.getD i 0 < F.p) := sK fun i => by rw [q1]; exact Lv hF g0 (Dy g0 M x) i
 have m4 : Hid (∀ i, yl.getD i 0 < F.p) := sK fun i => by rw [r1]; exact Lv hF g0 (Dy g0 M y) i
 have e4 : Hid (∀ i, ml.getD i 0 < F.p) := sK fun i => by rw [z0]; exact Lv hF g0 (fun z hz => Tx hF z hz) i
 have u1 : Hid (F.m ≠ 0 -> ml.length = M) := sK fun h => by rw [z0, Fp, if_neg h, hM]
 have z2 := sK hmod
 have HM := sK hM
 have e1 : Ax F A c = .agg #[nQ F.p, nQ M, .slice A ml.length c] := by rw [hM, z0]; rfl
 rw [e1]
 unfold fldV at *
 rw [<- hM] at l0 m0 t0
 unfold RetN at l0 m0
 have r5 : 1 <= M ∧ M <= 8 := by omega
 have g3 : F.m = M - 1 := by omega
 rw [g3] at t0 u1
 clear e1 hM q1 r1 z0 s3 v0 w0 hmod v1 g3
 obtain ⟨D2, p4⟩ := xQ (2 * M)
 obtain ⟨N2, i2⟩ := xQ (2 * M - 1)
 have j5 := sK i2
 have h3 : N2 + 1 = D2 := by omega
 have i3 : N2 + 1 = M + M := by omega
 generalize F.mul x y = z at *
 obtain ⟨mL, l2⟩ := xQ ml.length
 have i5 := sK l2
 rw [<- l2] at l0 m0 t0 z2 u1 ⊢
 rw [<- i2] at s1 t2 y1
 clear l2
 have e1 : 2 * (M : Int) = (D2 : Int) := by omega
 have l5 : IntKind.i64.wrap (D2 : Int) = (D2 : Int) := Ay (by omega)
 have e2 : (D2 : Int) - 1 = (N2 : Int) := by omega
 have m5 : IntKind.i64.wrap (N2 : Int) = (N2 : Int) := Ay (by omega)
 have b4 := sK h3
 have l1 := sK i3
 clear p4 i2 h3 i3
 go_enter Tryz.func274, Tryz.ntmps274
 go_upto_region 1 with fail
 obtain ⟨W, hW, t5, j2, b0⟩ := mk1 w #[nQ F.p, nQ M, .slice A mL c] 24
 rw [hW]
 clear hW
 have HC : Hid (∀ wx, From W wx -> wx.cell? ⟨w.heap.size, 0, none⟩ = some (nQ F.p) ∧ wx.cell? ⟨w.heap.size, 1, none⟩ = some (nQ M) ∧ wx.cell? ⟨w.heap.size, 2, none⟩ = some (.slice A mL c)) := sK fun wx hx => ⟨(b0.below hx).c0, (b0.below hx).c1, (b0.below hx).c2⟩
 have k5 := sK j2
 have HW : Hid (∀ wx, From W wx -> From w wx) := sK fun wx hx => j2.trans (qf hx (by omega))
 clear b0 j2
 obtain ⟨c0, c1, c2⟩ := HC W (From.refl _)
 go_upto_region 2 with (go_at_call 276; refine (l0 W).mono ?_; rintro e w2 ⟨A2, ca, rfl, n2, l3⟩)
 have d0 := sK l3
 have a3 := sK n2
 obtain ⟨ga, rfl, z5, a6⟩ := n2.block (by omega)
 clear n2 l3 c0 c1 c2
 obtain ⟨c0, c1, c2⟩ := HC w2 d0.out
 go_upto_region 3 with (go_at_call 276; refine (m0 w2).mono ?_; rintro e w3 ⟨A3, cb, rfl, o2, x0⟩)
 have r2 := sK (Aa x0 d0.out)
 have u3 := sK (a3.below x0)
 have g4 := sK o2
 obtain ⟨gb, rfl, b6, c6⟩ := o2.block (by omega)
 have i6 : w2.heap.size <= w3.heap.size := x0.size
 clear o2 x0 c0 c1 c2 a3 d0
 obtain ⟨c0, c1, c2⟩ := HC w3 r2.out
 go_upto_region 4 with (at_make; refine Bd rfl _ _ _ rfl i0 Tryz.underlying22 hi e5 g5 h5 _ _ N2 rfl rfl (by omega) ?_; intro w4 t3 m3 b5)
 have c3 : Hid (OwnN w4 w3.heap.size (sQ w3.heap.size) N2 N2 (CI 0)) := sK (by rw [t2.out]; exact t3)
 have s2 := sK m3
 have x4 : w3.heap.size < w4.heap.size := by omega
 have h0 : Hid (∀ wx, From w3 wx -> From W wx) := sK fun wx hx => Aa hx r2.out
 clear t3 m3 c0 c1 c2 b5
 go_upto_region 5 with fail
 go_loopw [10] (fun r0 wr => ∃ i : Nat, i <= M ∧ r0 = nQ i ∧ OwnN wr w3.heap.size (sQ w3.heap.size) N2 N2 (CI i) ∧ From w3 wr ∧ w3.heap.size < wr.heap.size) (fun r0 _ => M - (intOf r0).toNat)
 case atStart => exact ⟨0, qe _, rfl, c3.out, s2.out, x4⟩
 case round =>
  obtain ⟨i, d6, rfl, hO, hB, y0⟩ := hrel; obtain ⟨wo, rfl⟩ := xQ wr; have HO := sK hO; have HB := sK hB; clear hO hB c3 s2; obtain ⟨c0, c1, c2⟩ := HC wo (h0 wo HB.out)
  by_cases hiM : i < M
  ·have t4 : (i : Int) < (M : Int) := by omega
   have v2 := sK (a4 i); obtain ⟨r, hr⟩ := xQ (CI i); have z1 : Hid (∀ j, (cvJ F.p i (xl.getD i 0) yl r j).length = N2) := sK fun j => by rw [Nw, hr]; exact s1 i
   have d2 : Hid (∀ j, ∀ z ∈ cvJ F.p i (xl.getD i 0) yl r j, z < F.p) := sK fun j => Te g0 _ _ _ (by rw [hr]; exact x2 i) j
   rw [<- hr] at HO v2; have u5 := l4 i; have n3 : ∀ wx, From w3 wx -> wx.cell? ⟨ga, i, none⟩ = some (nQ (xl.getD i 0)) := fun wx hx => (u3.below hx).cell hiM
   have v3 := sK n3; clear hr n3; generalize xl.getD i 0 = ai at *; go_upto_region 8 with fail
   clear c0 c1 c2
   go_loopw [11] (fun jv wr => ∃ j : Nat, j <= M ∧ jv = nQ j ∧ OwnN wr w3.heap.size (sQ w3.heap.size) N2 N2 (cvJ F.p i ai yl r j) ∧ From w3 wr ∧ w3.heap.size < wr.heap.size) (fun jv _ => M - (intOf jv).toNat)
   case atStart => exact ⟨0, qe _, rfl, HO.out, HB.out, y0⟩
   case round =>
    obtain ⟨j, hj, rfl, a0, n0, i1⟩ := hrel; obtain ⟨wj, rfl⟩ := xQ wr; clear HO HB; have d0 := sK n0; obtain ⟨c0, c1, c2⟩ := HC wj (h0 wj n0)
    by_cases hjM : j < M
    ·have k2 : (j : Int) < (M : Int) := by omega
     obtain ⟨t, ht⟩ := xQ (i + j); have k1 : t < N2 := by have := l1.out; omega
     have j1 := a0.cell k1; have a5 : (cvJ F.p i ai yl r j).getD t 0 < F.p := d2 j _ (Ap (by rw [z1.out]; exact k1) 0); have x5 := m4 j; have o3 : ∀ wx, From w3 wx -> wx.cell? ⟨gb, j, none⟩ = some (nQ (yl.getD j 0)) := fun wx hx => (g4.below hx).cell hjM
     have x3 := sK o3; have q0 := fun wx (hx : From wj wx) => (a0.below hx).set t (x := ((cvJ F.p i ai yl r j).getD t 0 + ai * yl.getD j 0) % F.p) (by have := qu ((cvJ F.p i ai yl r j).getD t 0 + ai * yl.getD j 0) g0; omega)
     have b1 : Hid ((cvJ F.p i ai yl r j).set t (((cvJ F.p i ai yl r j).getD t 0 + ai * yl.getD j 0) % F.p) = cvJ F.p i ai yl r (j + 1)) := sK (by rw [ht]; rfl); rw [b1.out] at q0; have g2 := sK q0; have o0 := a0.free t; clear q0 a0 n0 b1 o3; generalize (cvJ F.p i ai yl r j).getD t 0 = rt at *; generalize yl.getD j 0 = bj at *; have f1 : (i : Int) + (j : Int) = (t : Int) := by omega
     have n4 : IntKind.i64.wrap (t : Int) = (t : Int) := Ay (by omega); have x0 := Et (a := ai) (b := bj) (by omega) (by omega); have f3 : IntKind.i64.wrap ((ai : Int) * (bj : Int)) = ((ai * bj : Nat) : Int) := by rw [<- Yq]; exact Ay (by omega)
     generalize ai * bj = m2 at *; have f4 : IntKind.i64.wrap ((rt : Int) + (m2 : Int)) = ((rt + m2 : Nat) : Int) := by rw [<- qal]; exact Ay (by omega)
     generalize rt + m2 = u2 at *; have f5 := Cg u2 F.p; generalize u2 % F.p = nk at *; have d5 : (t : Int) < (N2 : Int) := by omega
     have z4 : ¬ F.p = 0 := by omega
     have y4 : 2 <= (F.p : Int) := by omega
     clear ht; go_upto_region 10 with fail
     have d1 : From wj wj := From.refl wj; have a1 := sK j1; have t1 := sK o0; have j0 : Hid (w3.heap.size < wj.heap.size) := sK i1; clear j1 o0 c0 c1 c2; refine wpT 24 117 [.v (.slice (sQ w3.heap.size) N2 N2), .v (nQ i), .v (nQ j), .v (nQ t), .v (.slice (sQ w3.heap.size) N2 N2), .v (nQ i), .v (nQ j), .v (nQ t), .v (.pointer (some ⟨w3.heap.size, t, none⟩)), .v (nQ rt), .v (.slice (sQ ga) M ca), .v (nQ i), .v (.pointer (some ⟨ga, i, none⟩)), .v (nQ ai), .v (.slice (sQ gb) M cb), .v (nQ j), .v (.pointer (some ⟨gb, j, none⟩)), .v (nQ bj), .v (nQ m2), .v (nQ u2), .v (pQ w.heap.size), .v (nQ F.p), .v (nQ nk), .v (.pointer (some ⟨w3.heap.size, t, none⟩))] wj (by kernel_rfl) (by kernel_rfl) (by kernel_rfl) rfl (From.drew d1) ?_; simp only [Tk]
     iterate 24 (refine .z (fun wx hx _ hK => by first | (go_simp; exact Kz hK) | (have hc := (hx.cell (p := ⟨w3.heap.size, t, none⟩) j0.out).trans a1.out; go_simp; exact Kz hK) | (have hc := v3 wx (Aa hx d0.out); go_simp; exact Kz hK) | (have hc := x3 wx (Aa hx d0.out); go_simp; exact Kz hK) | (obtain ⟨c0, c1, c2⟩ := HC wx (h0 wx (Aa hx d0.out)); go_simp; exact Kz hK)) ?_; simp only [Pt])
     refine .nil fun w5 e0 _ => ?_
     have u4 := (e0.cell (p := ⟨w3.heap.size, t, none⟩) j0.out).trans a1.out; have o0 := (e0.frozen (p := ⟨w3.heap.size, t, none⟩) j0.out).trans t1.out; have c5 := e0.size; go_wp2; go_roundw
     case rel => exact ⟨j + 1, by omega, by go_num, g2 _ e0, (Aa e0 d0.out).setCell (p := ⟨w3.heap.size, t, none⟩) (qb _) _, by simp [World.setCell]; omega⟩
     case measure => simp [intOf] <;> omega
    ·obtain rfl : j = M := by omega
     have k2 : decide ((j : Int) < (j : Int)) = false := by simp
     rw [<- v2.out] at a0; have x1 := sK a0; clear a0; go_wp2; go_roundw
     case rel => exact ⟨i + 1, by omega, by go_num, x1.out, d0.out, i1⟩
     case measure => simp [intOf] <;> omega
  ·obtain rfl : i = M := by omega
   have t4 : decide ((i : Int) < (i : Int)) = false := by simp
   rw [<- h4.out] at HO; obtain ⟨N3, j3⟩ := xQ (2 * i - 2); have g1 : (D2 : Int) - 2 = (N3 : Int) := by have := b4.out; have := l1.out; omega
   have o5 : IntKind.i64.wrap (N3 : Int) = (N3 : Int) := Ay (by omega); have w1 := sK j3; clear j3; go_upto_region 12 with fail
   clear c0 c1 c2
   go_loopw [12] (fun r0 wr => ∃ k : Nat, k <= i - 1 ∧ r0 = .int .i64 ((N3 : Int) - (k : Int)) ∧ OwnN wr w3.heap.size (sQ w3.heap.size) N2 N2 (RI k) ∧ From w3 wr ∧ w3.heap.size < wr.heap.size) (fun r0 _ => (intOf r0 + 1).toNat)
   case atStart => exact ⟨0, qe _, by simp, HO.out, HB.out, y0⟩
   case round =>
    clear HO HB y0; obtain ⟨k, hk, rfl, hO, hB, y0⟩ := hrel; obtain ⟨wk, rfl⟩ := xQ wr; have HO := sK hO; have HB := sK hB; clear hO hB; obtain ⟨c0, c1, c2⟩ := HC wk (h0 wk HB.out)
    by_cases hkM : k < i - 1
    ·obtain ⟨I, hI⟩ := xQ (2 * i - 2 - k)
     obtain ⟨s, hs⟩ := xQ (2 * i - 2 - k - i); have eI : (N3 : Int) - (k : Int) = (I : Int) := by have := w1.out; omega
     have n1 : s + i = I := by omega
     have e3 : I < N2 := by have := l1.out; omega
     have q4 : (i : Int) <= (I : Int) := by omega
     have p5 : I <= 14 := by omega
     have r3 := u1 (by omega); have c4 : Hid (I = 2 * i - 2 - k) := sK hI; rw [eI]; have m1 := sK (k4 k); rw [<- hs, <- hI] at m1; obtain ⟨r, hr⟩ := xQ (RI k); rw [<- hr] at HO m1; obtain ⟨cc, o1⟩ := xQ (r.getD I 0); have y5 : cc < F.p := by
      rw [o1, hr]; exact d3 k _ (Ap (by rw [y1.out]; exact e3) 0)
     have y3 := sK o1; rw [<- o1] at m1; have z1 : Hid (∀ j, (dvJ F.p cc ml s r j).length = N2) := sK fun j => by rw [Jf, hr]; exact y1 k
     have d2 : Hid (∀ j, ∀ z ∈ dvJ F.p cc ml s r j, z < F.p) := sK fun j => Ly g0 _ _ _ (by rw [hr]; exact d3 k) j
     have y2 : Hid (mL = i) := sK r3; have d4 := sK n1; clear hr o1 hI hs eI r3 n1; go_upto_region 15 with fail
     clear c0 c1 c2
     go_loopw [13] (fun jv wr => ∃ j : Nat, j <= i ∧ jv = nQ j ∧ OwnN wr w3.heap.size (sQ w3.heap.size) N2 N2 (dvJ F.p cc ml s r j) ∧ From w3 wr ∧ w3.heap.size < wr.heap.size) (fun jv _ => i - (intOf jv).toNat)
     case atStart => exact ⟨0, qe _, rfl, HO.out, HB.out, y0⟩
     case round =>
      obtain ⟨j, hj, rfl, a0, n0, i1⟩ := hrel; obtain ⟨wj, rfl⟩ := xQ wr; clear HO HB y0; have d0 := sK n0; obtain ⟨c0, c1, c2⟩ := HC wj (h0 wj n0)
      by_cases hjM : j < i
      ·have k2 : (j : Int) < (i : Int) := by omega
       obtain ⟨t, ht⟩ := xQ (s + j); have n1 := d4.out; have k1 : t < N2 := by omega
       obtain ⟨lb, lo, o4, v4, q3⟩ := z2.at (k := j) (by have := y2.out; omega); subst o4; have p3 : ∀ wx, From w wx -> wx.cell? ⟨lb, lo + j, none⟩ = some (nQ (ml.getD j 0)) := fun wx hx => (hx.cell (p := ⟨lb, lo + j, none⟩) v4).trans q3
       have z3 := sK p3; have f6 := e4 j; have j1 := a0.cell k1; have p2 := a0.cell e3; rw [cS _ _ _ _ _ _ _ (by omega), <- y3.out] at p2; have a5 : (dvJ F.p cc ml s r j).getD t 0 < F.p := d2 j _ (Ap (by rw [z1.out]; exact k1) 0); have q0 := fun wx (hx : From wj wx) => (a0.below hx).set t (x := ((dvJ F.p cc ml s r j).getD t 0 + (F.p - cc) * ml.getD j 0) % F.p) (by have := qu ((dvJ F.p cc ml s r j).getD t 0 + (F.p - cc) * ml.getD j 0) g0; omega)
       have b1 : Hid ((dvJ F.p cc ml s r j).set t (((dvJ F.p cc ml s r j).getD t 0 + (F.p - cc) * ml.getD j 0) % F.p) = dvJ F.p cc ml s r (j + 1)) := sK (by rw [ht]; rfl); rw [b1.out] at q0; have g2 := sK q0; have o0 := a0.free t; clear q0 a0 n0 b1 p3 q3; generalize (dvJ F.p cc ml s r j).getD t 0 = rt at *; generalize ml.getD j 0 = mj at *; have f0 : (I : Int) - (i : Int) = (s : Int) := by omega
       have n5 : IntKind.i64.wrap (s : Int) = (s : Int) := Ay (by omega); have f1 : (s : Int) + (j : Int) = (t : Int) := by omega
       have n4 : IntKind.i64.wrap (t : Int) = (t : Int) := Ay (by omega); have f2 : IntKind.i64.wrap ((F.p : Int) - (cc : Int)) = ((F.p - cc : Nat) : Int) := by rw [show (F.p : Int) - (cc : Int) = ((F.p - cc : Nat) : Int) by omega]; exact Ay (by omega)
       have h6 : F.p - cc <= 256 := by omega
       generalize F.p - cc = a2 at *; have x0 := Et (a := a2) (b := mj) (by omega) (by omega); have f3 : IntKind.i64.wrap ((a2 : Int) * (mj : Int)) = ((a2 * mj : Nat) : Int) := by rw [<- Yq]; exact Ay (by omega)
       generalize a2 * mj = m2 at *; have f4 : IntKind.i64.wrap ((rt : Int) + (m2 : Int)) = ((rt + m2 : Nat) : Int) := by rw [<- qal]; exact Ay (by omega)
       generalize rt + m2 = u2 at *; have f5 := Cg u2 F.p; generalize u2 % F.p = nk at *; have d5 : (t : Int) < (N2 : Int) := by omega
       have q5 : (I : Int) < (N2 : Int) := by omega
       have e6 : (j : Int) < (mL : Int) := by have := y2.out; omega
       have z4 : ¬ F.p = 0 := by omega
       have y4 : 2 <= (F.p : Int) := by omega
       clear ht n1; go_upto_region 17 with fail
       have d1 : From wj wj := From.refl wj; have a1 := sK j1; have j4 := sK p2; have t1 := sK o0; have j0 : Hid (w3.heap.size < wj.heap.size) := sK i1; clear j1 o0 p2 c0 c1 c2; refine wpT 34 117 [.v (.slice (sQ w3.heap.size) N2 N2), .v (nQ I), .v (.pointer (some ⟨w.heap.size, 1, none⟩)), .v (nQ i), .v (nQ s), .v (nQ j), .v (nQ t), .v (.slice (sQ w3.heap.size) N2 N2), .v (nQ I), .v (.pointer (some ⟨w.heap.size, 1, none⟩)), .v (nQ i), .v (nQ s), .v (nQ j), .v (nQ t), .v (.pointer (some ⟨w3.heap.size, t, none⟩)), .v (nQ rt), .v (pQ w.heap.size), .v (nQ F.p), .v (.slice (sQ w3.heap.size) N2 N2), .v (nQ I), .v (.pointer (some ⟨w3.heap.size, I, none⟩)), .v (nQ cc), .v (nQ a2), .v (.pointer (some ⟨w.heap.size, 2, none⟩)), .v (.slice (some ⟨lb, lo, none⟩) mL c), .v (nQ j), .v (.pointer (some ⟨lb, lo + j, none⟩)), .v (nQ mj), .v (nQ m2), .v (nQ u2), .v (pQ w.heap.size), .v (nQ F.p), .v (nQ nk), .v (.pointer (some ⟨w3.heap.size, t, none⟩))] wj (by kernel_rfl) (by kernel_rfl) (by kernel_rfl) rfl (From.drew d1) ?_; simp only [Tk]
       iterate 34 (refine .z (fun wx hx _ hK => by first | (go_simp; exact Kz hK) | (obtain ⟨c0, c1, c2⟩ := HC wx (h0 wx (Aa hx d0.out)); go_simp; exact Kz hK) | (have hc := (hx.cell (p := ⟨w3.heap.size, t, none⟩) j0.out).trans a1.out; go_simp; exact Kz hK) | (have hc := (hx.cell (p := ⟨w3.heap.size, I, none⟩) j0.out).trans j4.out; go_simp; exact Kz hK) | (have hc := z3 wx (HW wx (h0 wx (Aa hx d0.out))); go_simp; exact Kz hK)) ?_; simp only [Pt])
       refine .nil fun w5 e0 _ => ?_
       have u4 := (e0.cell (p := ⟨w3.heap.size, t, none⟩) j0.out).trans a1.out; have o0 := (e0.frozen (p := ⟨w3.heap.size, t, none⟩) j0.out).trans t1.out; have c5 := e0.size; go_wp2; go_roundw
       case rel => exact ⟨j + 1, by omega, by go_num, g2 _ e0, (Aa e0 d0.out).setCell (p := ⟨w3.heap.size, t, none⟩) (qb _) _, by simp [World.setCell]; omega⟩
       case measure => simp [intOf] <;> omega
      ·obtain rfl : j = i := by omega
       have k2 : decide ((j : Int) < (j : Int)) = false := by simp
       rw [<- m1.out] at a0; have x1 := sK a0; clear a0; go_wp2; go_roundw
       case rel =>
        refine ⟨k + 1, by omega, ?_, x1.out, d0.out, i1⟩; have h1 := c4.out; have h2 := w1.out; rw [show (I : Int) - 1 = (N3 : Int) - ((k + 1 : Nat) : Int) by omega]
       case measure => simp [intOf] <;> omega
    ·obtain rfl : k = i - 1 := by omega
     have eI : (N3 : Int) - ((i - 1 : Nat) : Int) = (i : Int) - 1 := by have := w1.out; omega
     rw [eI]; have q4 : ¬ (i : Int) <= (i : Int) - 1 := by omega
     have r4 : i <= N2 := by have := l1.out; omega
     have k3 := HO.rd.head r4; have i4 := sK k3; clear eI k3; go_upto_region 18 with fail
     clear c0 c1 c2; have d1 : From wk wk := From.refl wk; have s5 : (i : Int) <= (N2 : Int) := by omega
     refine wpT 6 117 [.v (.agg #[nQ F.p, nQ i, .slice A mL c]), .v (.slice (sQ w3.heap.size) N2 N2), .v (.pointer (some ⟨w.heap.size, 1, none⟩)), .v (nQ i), .v (.slice (sQ w3.heap.size) i N2), .v (nQ z)] wk (by kernel_rfl) (by kernel_rfl) (by kernel_rfl) rfl (From.drew d1) ?_; simp only [Tk]
     iterate 6 (refine .z (fun wx hx _ hK => by first | (go_simp; exact Kz hK) | (obtain ⟨c0, c1, c2⟩ := HC wx (h0 wx (Aa hx HB.out)); go_simp; exact Kz hK) | (go_simp; refine (t0 wx _ _ (i4.below hx)).mono ?_; rintro e w' ⟨rfl, s4⟩; exact hK.out _ _ rfl s4)) ?_; simp only [Pt])
     refine .nil fun w5 e0 _ => ?_
     go_wp2; go_ret; exact ⟨rfl, HW _ (h0 _ (Aa e0 HB.out))⟩
theorem iC (w : WQ) (F : FD) (hF : F.Ok) (A : OQ) (c : Nat) (hmod : RdN w A (modL F).length c (modL F)) (x : Nat) (hx : x < F.q) (hx0 : x ≠ 0) : cQ 156 #[Ax F A c, nQ x] w (Ah (nQ (F.inv x)) w) := by
 have v0 := hF.bd
 have f0 := sK fun (wx : WQ) => Kl wx (F.p : Int) ((F.m + 1 : Nat) : Int) A (modL F).length c
 rw [dA hF] at f0
 have i0 := sK fun (wx : WQ) (h9 : From w wx) (y : Nat) (hy : y < F.q) => Pz wx F hF A c (hmod.below h9) x y hx hy
 have e0 : F.inv x < F.q := hF.pw_lt _ _
 have d0 := hF.mul_inv hx hx0
 have w0 : F.inv x ≠ 0 := fun e => by rw [e, hF.mul_zero] at d0; exact absurd d0 (by decide)
 have l0 : Hid (∀ y, y < F.q -> F.mul x y = 1 -> y = F.inv x) := sK fun y hy e => by
  have h1 : F.mul (F.inv x) (F.mul x y) = F.mul (F.inv x) 1 := by rw [e]
  rwa [<- hF.mul_assoc e0 hx hy, hF.mul_comm e0 hx, d0, hF.one_mul hy, hF.mul_one e0] at h1
 have e1 : Ax F A c = .agg #[nQ F.p, .int .i64 ((F.m + 1 : Nat) : Int), .slice A (modL F).length c] := rfl
 rw [e1] at i0 ⊢
 clear e1 hmod
 generalize (modL F).length = mL at *
 generalize F.m + 1 = M at *
 obtain ⟨v, hv⟩ := xQ (F.inv x)
 rw [<- hv] at e0 d0 w0 l0 ⊢
 clear hv
 obtain ⟨mu, g0⟩ : ∃ mu : Nat -> Nat, mu = F.mul x := ⟨_, rfl⟩
 have t0 : Hid (mu v = 1) := sK (by rw [g0]; exact d0)
 have q0 : Hid (∀ y, y < F.q -> mu y = 1 -> y = v) := sK (by rw [g0]; exact l0.out)
 have j0 : Hid (∀ wx, From w wx -> ∀ y, y < F.q -> cQ 274 #[.agg #[nQ F.p, nQ M, .slice A mL c], nQ x, nQ y] wx (Ah (nQ (mu y)) wx)) := sK (by rw [g0]; exact i0.out)
 clear i0 l0 g0 d0
 obtain ⟨q, hq⟩ := xQ F.q
 rw [<- hq] at f0 q0 j0 hx e0 v0
 clear hq hF
 go_enter Tryz.func156, Tryz.ntmps156
 go_upto_region 1 with fail
 obtain ⟨W, hW, y0, m0, b0⟩ := mk1 w #[nQ F.p, nQ M, .slice A mL c] 24
 rw [hW]
 clear hW
 have HC : Hid (∀ wx, From W wx -> wx.cell? ⟨w.heap.size, 0, none⟩ = some (nQ F.p) ∧ wx.cell? ⟨w.heap.size, 1, none⟩ = some (nQ M) ∧ wx.cell? ⟨w.heap.size, 2, none⟩ = some (.slice A mL c)) := sK fun wx hx => ⟨(b0.below hx).c0, (b0.below hx).c1, (b0.below hx).c2⟩
 have x0 := sK m0
 have HW : Hid (∀ wx, From W wx -> From w wx) := sK fun wx hx => m0.trans (qf hx (by omega))
 clear b0 m0
 go_upto_region 2 with fail
 go_loopw [5] (fun yv wr => ∃ y : Nat, 1 <= y ∧ y <= v ∧ yv = nQ y ∧ From W wr) (fun yv _ => v - (intOf yv).toNat)
 case atStart => exact ⟨1, qb _, by omega, rfl, From.refl W⟩
 case round =>
  obtain ⟨y, b1, f1, rfl, r0⟩ := hrel; obtain ⟨wo, rfl⟩ := xQ wr; have HF := sK r0; clear r0; have d1 : (y : Int) < (q : Int) := by omega
  obtain ⟨c0, c1, c2⟩ := HC wo HF.out
  by_cases he : mu y = 1
  ·have HE := sK (q0 y (by omega) he)
   have h0 : Hid (∀ wx, From w wx -> cQ 274 #[.agg #[nQ F.p, nQ M, .slice A mL c], nQ x, nQ y] wx (Ah (.int .i64 1) wx)) := sK fun wx h9 => by
    have := j0 wx h9 y (by omega)
    rwa [he] at this
   clear he; go_upto_region 4 with (go_at_call 20; refine (f0 wo).mono ?_; rintro e w5 ⟨rfl, n0⟩)
   have a0 := sK (Aa n0 HF.out); clear c0 c1 c2; obtain ⟨c0, c1, c2⟩ := HC w5 a0.out; go_wp2_with (go_at_call 274; refine (h0 w5 (HW w5 a0.out)).mono ?_; rintro e w6 ⟨rfl, o0⟩); go_ret; exact ⟨by rw [<- HE.out]; rfl, HW _ (Aa o0 a0.out)⟩
  ·have a1 : y < v := by
    rcases Nq y v with h | h
    ·exact h
    ·exact absurd (by rw [show y = v by omega]; exact t0.out) he
   have h0 := sK fun (wx : WQ) (h9 : From w wx) => j0 wx h9 y (by omega)
   have z0 : ((mu y : Int) == 1) = false := by rw [beq_eq_false_iff_ne]; omega
   clear he; generalize mu y = my at *; go_upto_region 4 with (go_at_call 20; refine (f0 wo).mono ?_; rintro e w5 ⟨rfl, n0⟩)
   have a0 := sK (Aa n0 HF.out); clear c0 c1 c2; obtain ⟨c0, c1, c2⟩ := HC w5 a0.out; go_wp2_with (go_at_call 274; refine (h0 w5 (HW w5 a0.out)).mono ?_; rintro e w6 ⟨rfl, o0⟩); go_roundw
   case rel => exact ⟨y + 1, by omega, by omega, by go_num, Aa o0 a0.out⟩
   case measure => simp [intOf] <;> omega
theorem Tz (w : WQ) (F : FD) (hF : F.Ok) (A : OQ) (n c : Nat) (B : OQ) (k d : Nat) (l : List Int) (hr : RdZ w B k d l) : cQ 99 #[fldV F A n c, .slice B k d] w (Says (∀ j, j < k -> 0 <= l.getD j 0 ∧ l.getD j 0 < (F.q : Int)) w) := by
 have v0 := sK fun (wx : WQ) (x : Int) => cM wx F hF A n c x
 unfold fldV at *
 obtain ⟨q, hq⟩ := xQ F.q
 rw [<- hq] at v0 ⊢
 have HR := sK hr
 obtain ⟨V, hV⟩ : ∃ V : Prop, V = (∀ j, j < k -> 0 <= l.getD j 0 ∧ l.getD j 0 < (q : Int)) := ⟨_, rfl⟩
 have HV := sK hV
 rw [<- hV]
 have k2 := hr.cap
 have a2 := hr.max
 unfold maxLen at a2
 clear hV hq hF hr
 generalize F.m + 1 = M at *
 go_enter Tryz.func99, Tryz.ntmps99
 go_upto_region 1 with fail
 obtain ⟨W, hW, b1, a0, b0⟩ := mk1 w #[nQ F.p, nQ M, .slice A n c] 24
 rw [hW]
 clear hW
 have HC : Hid (∀ wx, From W wx -> wx.cell? ⟨w.heap.size, 0, none⟩ = some (nQ F.p) ∧ wx.cell? ⟨w.heap.size, 1, none⟩ = some (nQ M) ∧ wx.cell? ⟨w.heap.size, 2, none⟩ = some (.slice A n c)) := sK fun wx hx => ⟨(b0.below hx).c0, (b0.below hx).c1, (b0.below hx).c2⟩
 have v1 := sK a0
 have HW : Hid (∀ wx, From W wx -> From w wx) := sK fun wx hx => a0.trans (qf hx (by omega))
 clear b0 a0
 go_upto_region 2 with fail
 go_loopw [5] (fun r0 wr => ∃ i : Nat, i <= k ∧ r0 = nQ i ∧ (∀ j, j < i -> 0 <= l.getD j 0 ∧ l.getD j 0 < (q : Int)) ∧ From W wr) (fun r0 _ => k - (intOf r0).toNat)
 case atStart => exact ⟨0, qe _, rfl, fun j hj => by omega, From.refl W⟩
 case round =>
  obtain ⟨i, hi, rfl, d1, a1⟩ := hrel; obtain ⟨wo, rfl⟩ := xQ wr; have HF := sK a1; have t0 := sK d1; clear a1 d1
  by_cases hik : i < k
  ·have y1 : (i : Int) < (k : Int) := by omega
   obtain ⟨lb, lo, n0, l0, e0⟩ := (HR.below (HW wo HF.out)).at hik; subst n0; have w0 : Hid (lb < wo.heap.size) := sK l0; obtain ⟨y, hy⟩ := xQ (l.getD i 0); have HY := sK hy; rw [<- hy] at e0; have x0 := sK e0; clear hy e0 l0; go_upto_region 4 with fail
   have j0 : From wo wo := From.refl wo; have h0 := sK fun (wx : WQ) => v0 wx y
   by_cases hyq : 0 <= y ∧ y < (q : Int)
   ·rw [decide_eq_true hyq] at h0
    have l1 : Hid (∀ j, j < i + 1 -> 0 <= l.getD j 0 ∧ l.getD j 0 < (q : Int)) := sK fun j hj => by
     by_cases e : j = i
     ·rw [e, <- HY.out]; exact hyq
     ·exact t0 j (by omega)
    clear hyq; refine wpT 7 19 [.v (.agg #[nQ F.p, nQ M, .slice A n c]), .v (.slice (some ⟨lb, lo, none⟩) k d), .v (nQ i), .v (.pointer (some ⟨lb, lo + i, none⟩)), .v (.int .i64 y), .v (.bool true), .v (.bool false)] wo (by kernel_rfl) (by kernel_rfl) (by kernel_rfl) rfl (From.drew j0) ?_; simp only [Tk]
    iterate 7 (refine .z (fun wx hx _ hK => by first | (go_simp; exact Kz hK) | (obtain ⟨c0, c1, c2⟩ := HC wx (Aa hx HF.out); go_simp; exact Kz hK) | (have hc := (hx.cell (p := ⟨lb, lo + i, none⟩) w0.out).trans x0.out; go_simp; exact Kz hK) | (go_simp; refine (h0 wx).mono ?_; rintro e w' ⟨rfl, f0⟩; exact hK.out _ _ rfl f0)) ?_; simp only [Pt])
    refine .nil fun w7 q0 _ => ?_
    go_wp2; go_roundw
    case rel => exact ⟨i + 1, by omega, by go_num, l1.out, Aa q0 HF.out⟩
    case measure => simp [intOf] <;> omega
   ·rw [decide_eq_false hyq] at h0
    clear hyq; refine wpT 7 19 [.v (.agg #[nQ F.p, nQ M, .slice A n c]), .v (.slice (some ⟨lb, lo, none⟩) k d), .v (nQ i), .v (.pointer (some ⟨lb, lo + i, none⟩)), .v (.int .i64 y), .v (.bool false), .v (.bool true)] wo (by kernel_rfl) (by kernel_rfl) (by kernel_rfl) rfl (From.drew j0) ?_; simp only [Tk]
    iterate 7 (refine .z (fun wx hx _ hK => by first | (go_simp; exact Kz hK) | (obtain ⟨c0, c1, c2⟩ := HC wx (Aa hx HF.out); go_simp; exact Kz hK) | (have hc := (hx.cell (p := ⟨lb, lo + i, none⟩) w0.out).trans x0.out; go_simp; exact Kz hK) | (go_simp; refine (h0 wx).mono ?_; rintro e w' ⟨rfl, f0⟩; exact hK.out _ _ rfl f0)) ?_; simp only [Pt])
    refine .nil fun w7 q0 _ => ?_
    go_wp2; go_ret; exact ⟨⟨2, rfl, fun h => absurd h (by decide)⟩, HW _ (Aa q0 HF.out)⟩
  ·obtain rfl : i = k := by omega
   have y1 : decide ((i : Int) < (i : Int)) = false := by simp
   have u1 : Hid V := sK (by rw [HV.out]; exact t0.out); go_wp2; go_ret; exact ⟨⟨0, rfl, fun _ => u1.out⟩, HW _ HF.out⟩
theorem Xp (w : WQ) (F : FD) (hF : F.Ok) (A : OQ) (c : Nat) (hmod : RdN w A (modL F).length c (modL F)) (x : Nat) (hx : x < F.q) (B : OQ) (n d : Nat) (l : NQ) (hr : RdN w B n d l) (hl : Els F l) (hn : n <= 1000) :
  cQ 155 #[Ax F A c, nQ x, .slice B n d] w (RetN n (Bb F.fld x l) w) := by
 obtain ⟨i0, hi, f2, g2, h2⟩ := info_parts Bj
 have i2 := hr.le63
 have m0 := sK hr.len
 have hq := hF.q256
 have z0 := sK fun (wx : WQ) (h9 : From w wx) (y : Nat) (hy : y < F.q) => Pz wx F hF A c (hmod.below h9) x y hx hy
 have o1 := sK fun k => hl.at hF k
 have s1 := sK hF.mul_lt
 have HR := sK hr
 have e1 : Ax F A c = .agg #[nQ F.p, .int .i64 ((F.m + 1 : Nat) : Int), .slice A (modL F).length c] := rfl
 rw [e1] at z0 ⊢
 clear e1 hmod hr hl
 generalize (modL F).length = mL at *
 generalize F.m + 1 = M at *
 unfold RetN
 go_enter Tryz.func155, Tryz.ntmps155
 go_upto_region 1 with fail
 obtain ⟨W, hW, b1, a0, b0⟩ := mk1 w #[nQ F.p, nQ M, .slice A mL c] 24
 rw [hW]
 clear hW
 have HC : Hid (∀ wx, From W wx -> wx.cell? ⟨w.heap.size, 0, none⟩ = some (nQ F.p) ∧ wx.cell? ⟨w.heap.size, 1, none⟩ = some (nQ M) ∧ wx.cell? ⟨w.heap.size, 2, none⟩ = some (.slice A mL c)) := sK fun wx hx => ⟨(b0.below hx).c0, (b0.below hx).c1, (b0.below hx).c2⟩
 have v1 := sK a0
 have HW : Hid (∀ wx, From W wx -> From w wx) := sK fun wx hx => a0.trans (qf hx (by omega))
 have n2 : w.heap.size < W.heap.size := by omega
 clear b0 a0 b1
 go_upto_region 3 with (at_make; refine Bd rfl _ _ _ rfl i0 Tryz.underlying22 hi f2 g2 h2 _ _ n rfl rfl (by omega) ?_; intro w1 k1 f1 e2)
 have i1 : W.heap.size < w1.heap.size := by omega
 clear e2
 go_loopw [8] (fun kv wr => ∃ k : Nat, k <= n ∧ kv = nQ k ∧ OwnN wr W.heap.size (sQ W.heap.size) n n ((l.take k).map (F.mul x) ++ List.replicate (n - k) 0) ∧ From W wr ∧ W.heap.size < wr.heap.size) (fun kv _ => n - (intOf kv).toNat)
 case atStart => exact ⟨0, qe _, rfl, by simpa using k1, f1, i1⟩
 case round =>
  clear k1 f1 i1; obtain ⟨k, hk, rfl, d0, hb, d2⟩ := hrel; obtain ⟨wo, rfl⟩ := xQ wr; have HB := sK hb; clear hb
  by_cases hki : k < n
  ·have z1 : (k : Int) < (n : Int) := by omega
   obtain ⟨lb, lo, n0, l0, e0⟩ := HR.at hki; subst n0; have x1 : F.mul x (l.getD k 0) < 1000000 := by have := s1 x (l.getD k 0); omega
   have o0 := fun wx (h9 : From wo wx) => (d0.below h9).set k x1
   rw [Fd 0 (by simp [m0.out]; omega) hki, <- Eo (F.mul x) l 0 (by rw [m0.out]; exact hki)] at o0; have t1 := sK o0; have r1 := sK fun (wx : WQ) (h9 : From w wx) => z0 wx h9 _ (o1 k)
   have m1 : Hid (∀ wx, From w wx -> wx.cell? ⟨lb, lo + k, none⟩ = some (nQ (l.getD k 0))) := sK fun wx hx => (hx.cell (p := ⟨lb, lo + k, none⟩) l0).trans e0
   have g1 := d0.cell hki; have h1 := d0.free k; have n1 := sK g1; have q1 := sK h1; have y0 : Hid (W.heap.size < wo.heap.size) := sK d2; clear o0 e0 g1 h1 d0; generalize l.getD k 0 = y at *; generalize F.mul x y = xy at *; go_upto_region 5 with fail
   have j0 : From wo wo := From.refl wo; refine wpT 10 29 [.v (.slice (sQ W.heap.size) n n), .v (nQ k), .v (.agg #[nQ F.p, nQ M, .slice A mL c]), .v (nQ x), .v (.slice (some ⟨lb, lo, none⟩) n d), .v (nQ k), .v (.pointer (some ⟨lb, lo + k, none⟩)), .v (nQ y), .v (nQ xy), .v (.pointer (some ⟨W.heap.size, k, none⟩))] wo (by kernel_rfl) (by kernel_rfl) (by kernel_rfl) rfl (From.drew j0) ?_; simp only [Tk]
   iterate 10 (refine .z (fun wx hx _ hK => by first | (go_simp; exact Kz hK) | (obtain ⟨c0, c1, c2⟩ := HC wx (Aa hx HB.out); go_simp; exact Kz hK) | (have hc := m1 wx (HW wx (Aa hx HB.out)); go_simp; exact Kz hK) | (go_simp; refine (r1 wx (HW wx (Aa hx HB.out))).mono ?_; rintro e w' ⟨rfl, f0⟩; exact hK.out _ _ rfl f0)) ?_; simp only [Pt])
   refine .nil fun w5 g0 _ => ?_
   have l2 := (g0.cell (p := ⟨W.heap.size, k, none⟩) y0.out).trans n1.out; have j2 := (g0.frozen (p := ⟨W.heap.size, k, none⟩) y0.out).trans q1.out; have m2 := g0.size; go_wp2; go_roundw
   case rel => exact ⟨k + 1, by omega, by go_num, t1 _ g0, (Aa g0 HB.out).setCell (p := ⟨W.heap.size, k, none⟩) (qb _) _, by simp [World.setCell]; omega⟩
   case measure => simp [intOf] <;> omega
  ·obtain rfl : k = n := by omega
   have z1 : decide ((k : Int) < (k : Int)) = false := by simp
   have j1 : OwnN wo W.heap.size (sQ W.heap.size) k k (Bb F.fld x l) := by
    rw [qq (by rw [m0.out]; exact qb _), qaa, qao, qas] at d0; exact d0
   have HO := sK j1; clear d0 j1; go_wp2; go_ret; exact ⟨_, k, rfl, HO.mono (by omega), HW _ HB.out⟩
theorem Vz (F : Fld) (v : NQ) (a : Nat) (u : NQ) {k : Nat} (h1 : k < v.length) (h2 : k < u.length) : (addRow F v a u).take (k + 1) = (addRow F v a u).take k ++ [F.add (v.getD k 0) (F.mul a (u.getD k 0))] := by
 have hl : (addRow F v a u).length = min v.length u.length := by simp [addRow]
 rw [qae (by omega)]
 congr 2
 simp [addRow, qa, h1, h2]
theorem aS (w : WQ) (F : FD) (hF : F.Ok) (A : OQ) (c : Nat) (hmod : RdN w A (modL F).length c (modL F)) (x : Nat) (hx : x < F.q) (B D : OQ) (n d e : Nat) (v u : NQ) (hr : RdN w B n d v) (hu : RdN w D n e u) (hv : Els F v) (hue : Els F u) (hn : n <= 1000) :
  cQ 157 #[Ax F A c, .slice B n d, nQ x, .slice D n e] w (RetN n (addRow F.fld v x u) w) := by
 obtain ⟨i0, hi, x2, y2, z2⟩ := info_parts Bj
 have g3 := hr.le63
 have c3 := sK hr.len
 have a3 := sK hu.len
 have hq := hF.q256
 have f1 := sK fun (wx : WQ) (h9 : From w wx) (y : Nat) (hy : y < F.q) => Pz wx F hF A c (hmod.below h9) x y hx hy
 have t0 := sK fun (wx : WQ) (y z : Nat) (hy : y < F.q) (hz : z < F.q) => nD wx F hF A (modL F).length c y z hy hz
 have y0 := sK fun k => hv.at hF k
 have x0 := sK fun k => hue.at hF k
 have g2 := sK hF.mul_lt
 have y1 := sK hF.add_lt
 have d2 := sK (hF.mul_zero x)
 have v1 := sK fun y (hy : y < F.q) => hF.fldOk.add0 y hy
 have j2 := sK hr
 have i2 := sK hu
 have b1 : Hid ((addRow F.fld v x u).length = n) := sK (by simp [addRow, hr.len, hu.len])
 have k2 : Hid (∀ k, k < n -> (addRow F.fld v x u).take (k + 1) = (addRow F.fld v x u).take k ++ [F.add (v.getD k 0) (F.mul x (u.getD k 0))]) := sK fun k hk => Vz F.fld v x u (by rw [hr.len]; exact hk) (by rw [hu.len]; exact hk)
 have e1 : Ax F A c = .agg #[nQ F.p, .int .i64 ((F.m + 1 : Nat) : Int), .slice A (modL F).length c] := rfl
 unfold fldV at t0
 rw [e1] at f1 ⊢
 clear e1 hmod hr hu hv hue
 generalize addRow F.fld v x u = R at *
 generalize (modL F).length = mL at *
 generalize F.m + 1 = M at *
 unfold RetN
 go_enter Tryz.func157, Tryz.ntmps157
 go_upto_region 1 with fail
 obtain ⟨W, hW, o2, o0, b0⟩ := mk1 w #[nQ F.p, nQ M, .slice A mL c] 24
 rw [hW]
 clear hW
 have HC : Hid (∀ wx, From W wx -> wx.cell? ⟨w.heap.size, 0, none⟩ = some (nQ F.p) ∧ wx.cell? ⟨w.heap.size, 1, none⟩ = some (nQ M) ∧ wx.cell? ⟨w.heap.size, 2, none⟩ = some (.slice A mL c)) := sK fun wx hx => ⟨(b0.below hx).c0, (b0.below hx).c1, (b0.below hx).c2⟩
 have e3 := sK o0
 have HW : Hid (∀ wx, From W wx -> From w wx) := sK fun wx hx => o0.trans (qf hx (by omega))
 have m3 : w.heap.size < W.heap.size := by omega
 clear b0 o0 o2
 go_upto_region 3 with (at_make; refine Bd rfl _ _ _ rfl i0 Tryz.underlying22 hi x2 y2 z2 _ _ n rfl rfl (by omega) ?_; intro w1 q1 i1 g0)
 have n1 : W.heap.size < w1.heap.size := by omega
 clear g0
 go_loopw [10] (fun kv wr => ∃ k : Nat, k <= n ∧ kv = nQ k ∧ OwnN wr W.heap.size (sQ W.heap.size) n n (R.take k ++ List.replicate (n - k) 0) ∧ From W wr ∧ W.heap.size < wr.heap.size) (fun kv _ => n - (intOf kv).toNat)
 case atStart => exact ⟨0, qe _, rfl, by simpa using q1, i1, n1⟩
 case round =>
  clear q1 i1 n1; obtain ⟨k, hk, rfl, a0, hb, u2⟩ := hrel; obtain ⟨wo, rfl⟩ := xQ wr; have HB := sK hb; clear hb
  by_cases hki : k < n
  ·have t2 : (k : Int) < (n : Int) := by omega
   obtain ⟨lb, lo, l2, l1, m1⟩ := j2.at hki; subst l2; obtain ⟨ub, uo, m2, s1, t1⟩ := i2.at hki; subst m2; have w2 := y0 k; have o3 := x0 k; have w0 : Hid (∀ wx, From w wx -> wx.cell? ⟨lb, lo + k, none⟩ = some (nQ (v.getD k 0))) := sK fun wx hx => (hx.cell (p := ⟨lb, lo + k, none⟩) l1).trans m1
   have l0 : Hid (∀ wx, From w wx -> wx.cell? ⟨ub, uo + k, none⟩ = some (nQ (u.getD k 0))) := sK fun wx hx => (hx.cell (p := ⟨ub, uo + k, none⟩) s1).trans t1
   have f0 := a0.set k (x := v.getD k 0) (by omega); have k1 : ∀ wx t, OwnN wx W.heap.size (sQ W.heap.size) n n (R.take k ++ List.replicate (n - k) 0 |>.set k t) -> t = F.add (v.getD k 0) (F.mul x (u.getD k 0)) -> OwnN wx W.heap.size (sQ W.heap.size) n n (R.take (k + 1) ++ List.replicate (n - (k + 1)) 0) := fun wx t h1 h2 => by
    have h3 : (R.take k).length = k := by rw [Sq, b1.out]; omega
    rw [Fd 0 h3 hki, h2, <- k2 k hki] at h1; exact h1
   have z0 := sK k1; have r2 := a0.cell hki; have s2 := a0.free k; have f2 := sK fun (wx : WQ) (h9 : From w wx) => f1 wx h9 _ (x0 k)
   have x1 := sK fun (wx : WQ) => t0 wx _ _ (y0 k) (g2 x (u.getD k 0))
   have z1 := sK (y1 (v.getD k 0) (F.mul x (u.getD k 0))); have e2 : Hid (u.getD k 0 = 0 -> F.mul x (u.getD k 0) = 0) := sK fun h => by rw [h]; exact d2.out
   clear k1 m1 t1 l1 s1; generalize v.getD k 0 = y at *; generalize u.getD k 0 = z at *; have p2 := w0 wo (HW wo HB.out)
   by_cases hz0' : z = 0
   ·subst hz0'
    have hE : y = F.add y (F.mul x 0) := by rw [e2 rfl]; exact (v1 y w2).symm
    have h0 := z0 _ y f0 hE; have m0 := sK h0; have e0 := HB.setCell (p := ⟨W.heap.size, k, none⟩) (qb _) (nQ y); have d0 := sK e0; have j1 : (wo.setCell ⟨W.heap.size, k, none⟩ (nQ y)).cell? ⟨ub, uo + k, none⟩ = some (.int .i64 ((0 : Nat) : Int)) := l0 _ (HW _ e0); clear hE h0 e0 f0; go_wp2; go_roundw
    case rel => exact ⟨k + 1, by omega, by go_num, m0.out, d0.out, by simp [World.setCell]; omega⟩
    case measure => simp [intOf] <;> omega
   ·have n3 : ((z : Int) != 0) = true := by rw [bne_iff_ne]; omega
    have e0 := HB.setCell (p := ⟨W.heap.size, k, none⟩) (qb _) (nQ y); have d0 := sK e0; have j1 : (wo.setCell ⟨W.heap.size, k, none⟩ (nQ y)).cell? ⟨ub, uo + k, none⟩ = some (nQ z) := l0 _ (HW _ e0); have f3 := sK hz0'; have r1 : (wo.setCell ⟨W.heap.size, k, none⟩ (nQ y)).heap.size = wo.heap.size := by simp [World.setCell]
    have n0 := sK r1; have g1 := sK f0; have r0 : (wo.setCell ⟨W.heap.size, k, none⟩ (nQ y)).cell? ⟨W.heap.size, k, none⟩ = some (nQ y) := by
     have := f0.cell hki
     rwa [qa, qcm (by rw [a0.len]; exact hki)] at this
    have v0 := sK r0; have a1 := sK (f0.free k); clear e0 hz0' r1 f0; generalize F.mul x z = xz at *; generalize F.add y xz = t at *; go_upto_region 7 with fail
    have d3 := sK a0; clear a0 r2 s2 p2 j1; obtain ⟨w6, u1⟩ := xQ (wo.setCell ⟨W.heap.size, k, none⟩ (nQ y)); rw [<- u1] at d0 n0 g1 v0 a1 r0 ⊢; clear u1 r0; have n2 : From w6 w6 := From.refl w6; have d1 : Hid (W.heap.size < w6.heap.size) := sK (by rw [n0.out]; exact u2); refine wpT 16 49 [.v (.slice (sQ W.heap.size) n n), .v (nQ k), .v (.agg #[nQ F.p, nQ M, .slice A mL c]), .v (.slice (some ⟨lb, lo, none⟩) n d), .v (nQ k), .v (.pointer (some ⟨lb, lo + k, none⟩)), .v (nQ y), .v (.agg #[nQ F.p, nQ M, .slice A mL c]), .v (nQ x), .v (.slice (some ⟨ub, uo, none⟩) n e), .v (nQ k), .v (.pointer (some ⟨ub, uo + k, none⟩)), .v (nQ z), .v (nQ xz), .v (nQ t), .v (.pointer (some ⟨W.heap.size, k, none⟩))] w6 (by kernel_rfl) (by kernel_rfl) (by kernel_rfl) rfl (From.drew n2) ?_; simp only [Tk]
    iterate 16 (refine .z (fun wx hx _ hK => by first | (go_simp; exact Kz hK) | (obtain ⟨c0, c1, c2⟩ := HC wx (Aa hx d0.out); go_simp; exact Kz hK) | (have hc := w0 wx (HW wx (Aa hx d0.out)); go_simp; exact Kz hK) | (have hc := l0 wx (HW wx (Aa hx d0.out)); go_simp; exact Kz hK) | (go_simp; refine (f2 wx (HW wx (Aa hx d0.out))).mono ?_; rintro e w' ⟨rfl, q0⟩; exact hK.out _ _ rfl q0) | (go_simp; refine (x1 wx).mono ?_; rintro e w' ⟨rfl, q0⟩; exact hK.out _ _ rfl q0)) ?_; simp only [Pt])
    refine .nil fun w5 j0 _ => ?_
    have j3 := (j0.cell (p := ⟨W.heap.size, k, none⟩) d1.out).trans v0.out; have i3 := (j0.frozen (p := ⟨W.heap.size, k, none⟩) d1.out).trans a1.out; have l3 := j0.size; have g0 := (g1.below j0).set k (x := t) (by have := z1.out; omega); rw [List.set_set] at g0; have h0 := z0 _ t g0 rfl; have m0 := sK h0; have v2 := n0.out; have a2 := sK (Aa j0 d0.out); clear g0 h0; have k3 : W.heap.size < w5.heap.size := by omega
    clear v2; go_wp2; go_roundw
    case rel => exact ⟨k + 1, by omega, by go_num, m0.out, a2.setCell (p := ⟨W.heap.size, k, none⟩) (qb _) _, by simp [World.setCell]; omega⟩
    case measure => simp [intOf] <;> omega
  ·obtain rfl : k = n := by omega
   have t2 : decide ((k : Int) < (k : Int)) = false := by simp
   have o1 : OwnN wo W.heap.size (sQ W.heap.size) k k R := by
    rw [qq (by rw [b1.out]; exact qb _), qaa, qao, qas] at a0; exact a0
   have HO := sK o1; clear a0 o1; go_wp2; go_ret; exact ⟨_, k, rfl, HO.mono (by omega), HW _ HB.out⟩
end Go.Proofs.YtoalkldfhkabnaaGreatDoor
