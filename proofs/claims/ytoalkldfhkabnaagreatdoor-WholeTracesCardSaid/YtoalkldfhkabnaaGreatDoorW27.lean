/- Part of WholeTraces. -/
import Derived.Test.YtoalkldfhkabnaaGreatDoorW00
import Derived.Test.YtoalkldfhkabnaaGreatDoorW09
import Derived.Test.YtoalkldfhkabnaaGreatDoorW10
import Derived.Test.YtoalkldfhkabnaaGreatDoorW19
import Derived.Test.YtoalkldfhkabnaaGreatDoorW20
import Derived.Test.YtoalkldfhkabnaaGreatDoorW21
import Derived.Test.YtoalkldfhkabnaaGreatDoorW26
set_option linter.all false
set_option maxRecDepth 10000
set_option maxHeartbeats 16000000
namespace Go.Proofs.YtoalkldfhkabnaaGreatDoor
open Go.RowKit Fq
theorem oQ (w : WQ) (HA : ∀ wx, From w wx -> cQ 5 #[] wx (Ah (.bool true) wx)) (P M : Int) (A : OQ) (n c : Nat) (l : List Int) (hr : RdZ w A n c l) (N : Int) (B : OQ) (k d : Nat) (R : List (List Int)) (hR : RdMZ w B k d R)
  (P2 M2 : Int) (A2 : OQ) (n2 c2 : Nat) (l2 : List Int) (hr2 : RdZ w A2 n2 c2 l2) :
  cQ 3 #[.agg #[.int .i64 P, .int .i64 M, .slice A n c, .int .i64 N, .slice B k d], .agg #[.int .i64 P2, .int .i64 M2, .slice A2 n2 c2]] w (Ah (.bool true) w) := by
 have i1 := sK HA
 have j1 := sK fun (wx : WQ) (h9 : From w wx) => Wh wx P M A n c l (hr.below h9) N B k d R (hR.below h9)
 have l1 := sK fun (wx : WQ) (h9 : From w wx) => Km wx P2 M2 A2 n2 c2 l2 (hr2.below h9)
 have f2 := sK hr
 have g2 := sK hr2
 have d2 := sK hR
 unfold Says at j1 l1
 unfold Ah at i1 ⊢
 clear HA hr hr2 hR
 go_enter Tryz.func3, Tryz.ntmps3
 go_upto_region 1 with fail
 obtain ⟨W, hW, a5, z1, b0, b1⟩ := mk2 w #[.int .i64 P, .int .i64 M, .slice A n c, .int .i64 N, .slice B k d] 27 #[.int .i64 P2, .int .i64 M2, .slice A2 n2 c2] 24
 rw [hW]
 clear hW
 have HC : Hid (∀ wx, From W wx -> (wx.cell? ⟨w.heap.size, 0, none⟩ = some (.int .i64 P) ∧ wx.cell? ⟨w.heap.size, 1, none⟩ = some (.int .i64 M) ∧ wx.cell? ⟨w.heap.size, 2, none⟩ = some (.slice A n c) ∧ wx.cell? ⟨w.heap.size, 3, none⟩ = some (.int .i64 N) ∧ wx.cell? ⟨w.heap.size, 4, none⟩ = some (.slice B k d)) ∧
   wx.cell? ⟨w.heap.size + 1, 0, none⟩ = some (.int .i64 P2) ∧ wx.cell? ⟨w.heap.size + 1, 1, none⟩ = some (.int .i64 M2) ∧ wx.cell? ⟨w.heap.size + 1, 2, none⟩ = some (.slice A2 n2 c2)) := sK fun wx hx =>
  have h0 := b0.below hx; have h1 := b1.below hx
  ⟨⟨h0.c0, h0.c1, h0.c2, h0.c3, h0.c4⟩, h1.c0, h1.c1, h1.c2⟩
 have r4 := sK z1
 have HW : Hid (∀ wx, From W wx -> From w wx) := sK fun wx hx => z1.trans (qf hx (by omega))
 have h5 : w.heap.size + 1 < W.heap.size := by omega
 clear b0 b1 z1 a5
 go_upto_region 3 with (go_at_call 5; refine (i1 W r4.out).mono ?_; rintro e w1 ⟨rfl, e3⟩)
 have f0 := sK e3
 clear e3 i1
 obtain ⟨⟨p0, p1, p2, p3, p4⟩, q0, q1, q2⟩ := HC w1 f0.out
 go_wp2_with (first
  | (go_at_call 6; refine (j1 w1 (HW _ f0.out)).mono ?_; rintro e w2 ⟨⟨k0, rfl, hk⟩, f3⟩; have g0 := sK (Aa f3 f0.out); have HK := sK hk; clear p0 p1 p2 p3 p4 q0 q1 q2 hk f3; obtain ⟨⟨p0, p1, p2, p3, p4⟩, q0, q1, q2⟩ := HC w2 g0.out; by_cases hk0 : k0 = 0 <;> by_cases hN8 : 8 < N)
  | (go_at_call 7; refine (l1 w2 (HW _ g0.out)).mono ?_; rintro e w3 ⟨⟨k1, rfl, hk⟩, g3⟩; have v0 := sK (Aa g3 g0.out); have a2 := sK hk; clear p0 p1 p2 p3 p4 q0 q1 q2 hk g3; obtain ⟨⟨p0, p1, p2, p3, p4⟩, q0, q1, q2⟩ := HC w3 v0.out; by_cases hk1 : k1 = 0))
 all_goals first | (go_ret; exact ⟨rfl, by first | exact HW _ v0.out | exact HW _ g0.out⟩) | skip
 obtain ⟨F, m, Rn, Q, hF, rfl, rfl, rfl, m3, rfl, f5, g5, x1, d0⟩ := HK hk0
 obtain ⟨S, hS, rfl, rfl, rfl, n3⟩ := a2 hk1
 have r1 := sK (RdN.back g2 (HW _ g0.out) n3)
 have o1 := sK (RdN.back f2 (HW _ f0.out) m3)
 have u1 := sK (RdM.back d2 (HW _ f0.out) x1)
 have u4 : k <= 256 := by have h1 := Cn d0; have h2 := d0.len; have h3 := x1.len; omega
 have a0 : Hid (cQ 8 #[.agg #[nQ S.p, .int .i64 ((S.m + 1 : Nat) : Int), .slice A2 (modL S).length c2], .agg #[nQ F.p, .int .i64 ((F.m + 1 : Nat) : Int), .slice A (modL F).length c]] w3 (Ah (.bool (decide (S.p = F.p ∧ (F.m + 1) % (S.m + 1) = 0))) w3)) := sK (gQ w3 F S hF hS A A2 (modL F).length c (modL S).length c2)
 unfold Ah at a0
 clear m3 n3 HK a2 x1 j1 l1
 by_cases hfit : S.p = F.p ∧ (F.m + 1) % (S.m + 1) = 0
 ·obtain ⟨hp, hd⟩ := hfit
  rw [decide_eq_true (And.intro hp hd)] at a0; have e1 : ∀ S A c, Ax S A c = .agg #[nQ S.p, .int .i64 ((S.m + 1 : Nat) : Int), .slice A (modL S).length c] := fun _ _ _ => rfl
  have e2 : ∀ S A c N B k cg, Dj S A c N B k cg = .agg #[nQ S.p, .int .i64 ((S.m + 1 : Nat) : Int), .slice A (modL S).length c, nQ N, .slice B k cg] := fun _ _ _ _ _ _ _ => rfl
  obtain ⟨QK, n0⟩ := Ji (M := Rn) hF.fldOk d0.mat; have y1 := Wn hF hS hp hd n0.mat; have x2 : kern S.fld (kern S.fld (trC F S m (kern F.fld Rn m)).1 m) m = (trC F S m (kern F.fld Rn m)).1 := fX hS.fldOk y1; obtain ⟨QT, y0⟩ := Ji (M := (trC F S m (kern F.fld Rn m)).1) hS.fldOk y1.mat; have d5 : (kern F.fld Rn m).length <= m := by have h1 := Cn n0; have h2 := n0.len; omega
  have e5 : (kern S.fld (trC F S m (kern F.fld Rn m)).1 m).length <= m := by have h1 := Cn y0; have h2 := y0.len; omega
  have w0 := sK fun (wx : WQ) (h9 : From w wx) => Tv wx F S hF hS hp hd A A2 c c2 (o1.below h9) (r1.below h9) m k d B Rn Q (u1.below h9) d0 (by omega) (by omega)
  have r0 := sK fun (wx : WQ) (h9 : From w wx) => Il wx F hF A c (o1.below h9) m k d B Rn Q (u1.below h9) d0 (by omega) (by omega) u4
  have e0 := sK fun (wx : WQ) (A1 : OQ) (c1 : Nat) (h1 : RdN wx A1 (modL S).length c1 (modL S)) (B1 : OQ) (k1 d1 : Nat) (h2 : RdM wx B1 k1 d1 (kern S.fld (trC F S m (kern F.fld Rn m)).1 m)) (hk1 : k1 <= 256) => Il wx S hS A1 c1 h1 m k1 d1 B1 _ QT h2 y0 (by omega) (by omega) hk1
  rw [x2] at e0; have x0 := sK fun (wx : WQ) (h9 : From w wx) (A1 : OQ) (c1 : Nat) (h1 : RdN wx A1 (modL F).length c1 (modL F)) (B1 : OQ) (k1 d1 : Nat) (h2 : RdM wx B1 k1 d1 (kern F.fld Rn m)) => fY wx F S hF hS hp hd A1 A2 c1 c2 h1 (r1.below h9) m k1 d1 B1 _ QK h2 n0 (by omega) (by omega)
  have v1 := sK fun (wx : WQ) (A1 A3 : OQ) (c1 c3 : Nat) (G H : OQ) (l gc hc : Nat) (h1 : RdN wx A1 (modL S).length c1 (modL S)) (h2 : RdN wx A3 (modL S).length c3 (modL S)) (h3 : RdM wx G l gc (trC F S m (kern F.fld Rn m)).1) (h4 : RdM wx H l hc (trC F S m (kern F.fld Rn m)).1) => Yt wx S m _ A1 A3 c1 c3 G H l gc hc h1 h2 h3 h4
  simp only [e1, e2] at w0 r0 e0 x0 v1; unfold Ef at w0 r0 e0 x0; simp only [e2] at w0 r0 e0 x0; unfold Ah at v1; clear n0 y1 x2 y0 hF hS d0 hp hd e1 e2 o1 r1 u1 f2 g2 d2; generalize (trC F S m (kern F.fld Rn m)).1 = T at *; generalize kern S.fld T m = KT at *; generalize kern F.fld Rn m = KR at *; generalize (modL F).length = mF at *; generalize (modL S).length = mS at *; generalize F.m + 1 = MF at *; generalize S.m + 1 = MS at *; refine a0.mono ?_; rintro e w4 ⟨rfl, o0⟩; have i0 := sK (Aa o0 v0.out); clear o0 p0 p1 p2 p3 p4 q0 q1 q2 a0; obtain ⟨⟨p0, p1, p2, p3, p4⟩, q0, q1, q2⟩ := HC w4 i0.out; go_upto_region 6 with (go_at_call 9; refine (w0 w4 (HW _ i0.out)).mono ?_; rintro e w5 ⟨A5, c5, B5, rfl, o3, o2, i3, _⟩)
  obtain ⟨W5, y2, v4, z0, i2⟩ := mk1 w5 #[nQ S.p, nQ MS, .slice A5 mS c5, nQ m, .slice B5 KT.length KT.length] 27; rw [y2]; clear y2; have m1 := sK (Aa z0 (Aa i3 i0.out)); have j4 := sK (o3.below z0); have d4 := sK (o2.below z0).rd; have v3 : Hid (∀ wx, From W5 wx -> wx.cell? ⟨w5.heap.size, 0, none⟩ = some (nQ S.p) ∧ wx.cell? ⟨w5.heap.size, 1, none⟩ = some (nQ MS) ∧ wx.cell? ⟨w5.heap.size, 2, none⟩ = some (.slice A5 mS c5) ∧ wx.cell? ⟨w5.heap.size, 3, none⟩ = some (nQ m) ∧ wx.cell? ⟨w5.heap.size, 4, none⟩ = some (.slice B5 KT.length KT.length)) := sK fun wx hx =>
   have h0 := i2.below hx
   ⟨h0.c0, h0.c1, h0.c2, h0.c3, h0.c4⟩
  clear o3 o2 i3 i2 z0 v4 p0 p1 p2 p3 p4 q0 q1 q2; obtain ⟨⟨p0, p1, p2, p3, p4⟩, q0, q1, q2⟩ := HC W5 m1.out; go_upto_region 7 with (go_at_call 10; refine (r0 W5 (HW _ m1.out)).mono ?_; rintro e w6 ⟨A6, c6, B6, rfl, q3, r2, j3, _⟩)
  obtain ⟨W6, z2, x4, a1, j2⟩ := mk1 w6 #[nQ F.p, nQ MF, .slice A6 mF c6, nQ m, .slice B6 KR.length KR.length] 27; rw [z2]; clear z2; have j0 : From W5 W6 := Aa a1 j3; have a4 := sK (Aa j0 m1.out); have l4 := sK (q3.below a1); have f4 := sK (r2.below a1).rd; have k4 := sK (j4.below j0); have e4 := sK (d4.below j0); have x3 : Hid (∀ wx, From W6 wx -> wx.cell? ⟨w6.heap.size, 0, none⟩ = some (nQ F.p) ∧ wx.cell? ⟨w6.heap.size, 1, none⟩ = some (nQ MF) ∧ wx.cell? ⟨w6.heap.size, 2, none⟩ = some (.slice A6 mF c6) ∧ wx.cell? ⟨w6.heap.size, 3, none⟩ = some (nQ m) ∧ wx.cell? ⟨w6.heap.size, 4, none⟩ = some (.slice B6 KR.length KR.length)) := sK fun wx hx =>
   have h0 := j2.below hx
   ⟨h0.c0, h0.c1, h0.c2, h0.c3, h0.c4⟩
  obtain ⟨s0, s1, s2, s3, s4⟩ := v3 W6 j0; clear q3 r2 j3 j2 a1 x4 p0 p1 p2 p3 p4 q0 q1 q2 j0; have z3 := sK (e0 W6 A5 c5 k4 B5 KT.length KT.length e4 (by omega)); go_upto_region 10 with (go_at_call 10; refine z3.mono ?_; rintro e w7 ⟨A7, c7, B7, rfl, r3, u2, k3, _⟩)
  obtain ⟨W7, a3, y4, f1, k2⟩ := mk1 w7 #[nQ S.p, nQ MS, .slice A7 mS c7, nQ m, .slice B7 T.length T.length] 27; rw [a3]; clear a3; have l0 : From W6 W7 := Aa f1 k3; have n1 := sK (Aa l0 a4.out); have n4 := sK (r3.below f1); have i4 := sK (u2.below f1).rd; have m4 := sK (l4.below l0); have g4 := sK (f4.below l0); have y3 : Hid (∀ wx, From W7 wx -> wx.cell? ⟨w7.heap.size, 0, none⟩ = some (nQ S.p) ∧ wx.cell? ⟨w7.heap.size, 1, none⟩ = some (nQ MS) ∧ wx.cell? ⟨w7.heap.size, 2, none⟩ = some (.slice A7 mS c7) ∧ wx.cell? ⟨w7.heap.size, 3, none⟩ = some (nQ m) ∧ wx.cell? ⟨w7.heap.size, 4, none⟩ = some (.slice B7 T.length T.length)) := sK fun wx hx =>
   have h0 := k2.below hx
   ⟨h0.c0, h0.c1, h0.c2, h0.c3, h0.c4⟩
  clear s0 s1 s2 s3 s4; obtain ⟨s0, s1, s2, s3, s4⟩ := x3 W7 l0; obtain ⟨⟨p0, p1, p2, p3, p4⟩, q0, q1, q2⟩ := HC W7 n1.out; clear r3 u2 k3 k2 f1 y4 l0; have q4 := sK (x0 W7 (HW _ n1.out) A6 c6 m4 B6 KR.length KR.length g4.out); go_upto_region 11 with (go_at_call 11; refine q4.mono ?_; rintro e w8 ⟨A8, c8, B8, rfl, u3, v2, l3, _⟩)
  obtain ⟨W8, d3, z4, g1, m2⟩ := mk1 w8 #[nQ S.p, nQ MS, .slice A8 mS c8, nQ m, .slice B8 T.length T.length] 27; rw [d3]; clear d3; have m0 : From W7 W8 := Aa g1 l3; have b4 := sK (Aa m0 n1.out); have o4 := sK (v1 W8 A7 A8 c7 c8 B7 B8 T.length T.length T.length (n4.below m0) (u3.below g1) (i4.below m0) (v2.below g1).rd); clear s0 s1 s2 s3 s4 p0 p1 p2 p3 p4 q0 q1 q2; obtain ⟨s0, s1, s2, s3, s4⟩ := y3 W8 m0; obtain ⟨t0, t1, t2, t3, t4⟩ := m2.t5; clear u3 v2 l3 m2 g1 z4 m0; go_wp2_with (go_at_call 12; refine o4.mono ?_; rintro e w9 ⟨rfl, b5⟩); go_ret; exact ⟨rfl, HW _ (Aa b5 b4.out)⟩
 ·rw [decide_eq_false hfit] at a0
  clear hfit; refine a0.mono ?_; rintro e w4 ⟨rfl, o0⟩; have i0 := sK (Aa o0 v0.out); clear o0 p0 p1 p2 p3 p4 q0 q1 q2; go_wp2; go_ret; exact ⟨rfl, HW _ i0.out⟩
def wtK (l : NQ) : Nat -> Nat
 | 0 => 0
 | i + 1 => wtK l i + (if l.getD i 0 = 0 then 0 else 1)
def wt (l : NQ) : Nat := wtK l l.length
theorem aV (l : NQ) : ∀ i, wtK l i <= i
 | 0 => qb _
 | i + 1 => by
  have := aV l i; simp only [wtK]; split <;> omega
theorem Ik (w : WQ) (A : OQ) (n c : Nat) (l : NQ) (hr : RdN w A n c l) : cQ 46 #[.slice A n c] w (Ba (nQ (wt l)) w) := by
 have h0 := hr.le63
 have HR := sK hr
 have j0 : wt l = wtK l n := by unfold wt; rw [hr.len]
 rw [j0]
 clear hr j0
 go_enter Tryz.func46, Tryz.ntmps46
 go_wp2
 go_loopw [3, 8] (fun nv b0 wr => ∃ i, i <= n ∧ b0 = nQ i ∧ nv = nQ (wtK l i) ∧ wr = w) (fun _ b0 _ => n - (intOf b0).toNat)
 case atStart => exact ⟨0, qe _, rfl, rfl, rfl⟩
 case round =>
  obtain ⟨i, hi, rfl, rfl, c0⟩ := hrel; have a0 := sK c0; clear c0
  by_cases hin : i < n
  ·obtain ⟨b, i0, hA, _, hc⟩ := (show RdN wr A n c l by rw [a0.out]; exact HR.out).at hin
   subst hA; have g0 : (i : Int) < (n : Int) := by omega
   have m0 := aV l i; have hs : wtK l (i + 1) = wtK l i + (if l.getD i 0 = 0 then 0 else 1) := rfl; generalize l.getD i 0 = y at *; have HS := sK hs; clear hs
   by_cases hy : y = 0
   ·subst hy
    go_wp2; go_roundw
    case rel => exact ⟨i + 1, by omega, by go_num, by rw [HS.out]; rfl, a0.out⟩
    case measure => simp [intOf]; omega
   ·have l0 : ((y : Int) != 0) = true := by rw [bne_iff_ne]; omega
    have e1 : IntKind.i64.wrap ((wtK l i : Int) + 1) = ((wtK l i + 1 : Nat) : Int) := by rw [show (wtK l i : Int) + 1 = ((wtK l i + 1 : Nat) : Int) by omega]; exact Ay (by omega)
    have HE : Hid (wtK l (i + 1) = wtK l i + 1) := sK (by rw [HS.out, if_neg hy]); clear hy; go_wp2; go_roundw
    case rel => exact ⟨i + 1, by omega, by go_num, by rw [HE.out]; go_num, a0.out⟩
    case measure => simp [intOf]; omega
  ·obtain rfl : i = n := by omega
   go_wp2; go_ret; exact ⟨rfl, a0.symm⟩
def fnz (l : NQ) : Nat := l.findIdx (· != 0)
def nzI (l : NQ) : Int := if fnz l < l.length then (fnz l : Int) else -1
theorem kT {l : NQ} {i : Nat} (hi : i < l.length) (h : ∀ j, j < i -> l.getD j 0 = 0) (he : l.getD i 0 ≠ 0) : nzI l = (i : Int) := by
 have e : fnz l = i := by
  unfold fnz; rw [List.findIdx_eq hi]; refine ⟨?_, fun j hj => ?_⟩
  ·rw [qa, qh hi] at he
   simpa using he
  ·have := h j hj
   rw [qa, qh (by omega)] at this; simpa using this
 rw [nzI, e, if_pos hi]
theorem Vg {l : NQ} (h : ∀ j, j < l.length -> l.getD j 0 = 0) : nzI l = -1 := by
 have e : fnz l = l.length := by
  unfold fnz; rw [List.findIdx_eq_length]; intro x hx; obtain ⟨j, hj, rfl⟩ := Iq.1 hx; have := h j hj; rw [qa, qh hj] at this; simpa using this
 rw [nzI, e, if_neg (Nat.lt_irrefl _)]
theorem qD (w : WQ) (y : Nat) : cQ 272 #[nQ y] w (Ba (.bool ((y : Int) != 0)) w) := by
 go_enter Tryz.func272, Tryz.ntmps272
 go_wp2
 go_ret
 exact ⟨rfl, rfl⟩
theorem oI (w : WQ) (y : Nat) : cQ 332 #[nQ y] w (Ba (.bool ((y : Int) != 0)) w) := by
 go_enter Tryz.func332, Tryz.ntmps332
 go_wp2
 go_ret
 exact ⟨rfl, rfl⟩
theorem pY (w : WQ) (y : Nat) : cQ 270 #[nQ y] w (Ba (.bool false) w) := by
 have h : decide ((y : Int) < 0) = false := by simp
 go_enter Tryz.func270, Tryz.ntmps270
 go_wp2
 go_ret
 exact ⟨rfl, rfl⟩
theorem Qv (w : WQ) (A : OQ) (n c : Nat) (l : NQ) (hr : RdN w A n c l) : cQ 271 #[.slice A n c, .func (Fn.func 272) #[] #[]] w (Ba (.int .i64 (nzI l)) w) := by
 have h0 := hr.le63
 have HR := sK hr
 have e0 := sK hr.len
 have HP := sK qD
 clear hr
 go_enter Tryz.func271, Tryz.ntmps271
 go_wp2
 go_loopw [8] (fun b0 wr => ∃ i, i <= n ∧ b0 = nQ i ∧ wr = w ∧ ∀ j, j < i -> l.getD j 0 = 0) (fun b0 _ => n - (intOf b0).toNat)
 case atStart => exact ⟨0, qe _, rfl, rfl, fun j hj => by omega⟩
 case round =>
  obtain ⟨i, hi, rfl, c0, hz⟩ := hrel; have HZ := sK hz; have a0 := sK c0; clear hz c0
  by_cases hin : i < n
  ·obtain ⟨b, i0, hA, _, hc⟩ := (show RdN wr A n c l by rw [a0.out]; exact HR.out).at hin
   subst hA; have g0 : (i : Int) < (n : Int) := by omega
   obtain ⟨y, hy⟩ := xQ (l.getD i 0); rw [<- hy] at hc; have HY := sK hy; clear hy
   by_cases he : y = 0
   ·have f0 : Hid (∀ j, j < i + 1 -> l.getD j 0 = 0) := sK fun j hj => by
     by_cases hji : j = i
     ·rw [hji, <- HY.out]; exact he
     ·exact HZ j (by omega)
    subst he; go_wp2_with (go_at_call 272; refine (HP wr 0).mono ?_; rintro e w' ⟨rfl, rfl⟩); go_roundw
    case rel => exact ⟨i + 1, by omega, by go_num, a0.out, f0.out⟩
    case measure => simp [intOf]; omega
   ·have d0 := sK (kT (by rw [e0.out]; exact hin) HZ (by rw [<- HY.out]; exact he))
    have l0 : ((y : Int) != 0) = true := by rw [bne_iff_ne]; omega
    clear he; go_wp2_with (go_at_call 272; refine (HP wr y).mono ?_; rintro e w' ⟨rfl, rfl⟩); go_ret; exact ⟨by rw [d0.out]; rfl, a0.symm⟩
  ·obtain rfl : i = n := by omega
   have d0 := sK (show nzI l = -1 from Vg (by rw [e0.out]; exact HZ.out)); go_wp2; go_ret; exact ⟨by rw [d0.out]; rfl, a0.symm⟩
theorem Qr (w : WQ) (A : OQ) (n c : Nat) (l : NQ) (hr : RdN w A n c l) : cQ 271 #[.slice A n c, .func (Fn.func 332) #[] #[]] w (Ba (.int .i64 (nzI l)) w) := by
 have h0 := hr.le63
 have HR := sK hr
 have e0 := sK hr.len
 have HP := sK oI
 clear hr
 go_enter Tryz.func271, Tryz.ntmps271
 go_wp2
 go_loopw [8] (fun b0 wr => ∃ i, i <= n ∧ b0 = nQ i ∧ wr = w ∧ ∀ j, j < i -> l.getD j 0 = 0) (fun b0 _ => n - (intOf b0).toNat)
 case atStart => exact ⟨0, qe _, rfl, rfl, fun j hj => by omega⟩
 case round =>
  obtain ⟨i, hi, rfl, c0, hz⟩ := hrel; have HZ := sK hz; have a0 := sK c0; clear hz c0
  by_cases hin : i < n
  ·obtain ⟨b, i0, hA, _, hc⟩ := (show RdN wr A n c l by rw [a0.out]; exact HR.out).at hin
   subst hA; have g0 : (i : Int) < (n : Int) := by omega
   obtain ⟨y, hy⟩ := xQ (l.getD i 0); rw [<- hy] at hc; have HY := sK hy; clear hy
   by_cases he : y = 0
   ·have f0 : Hid (∀ j, j < i + 1 -> l.getD j 0 = 0) := sK fun j hj => by
     by_cases hji : j = i
     ·rw [hji, <- HY.out]; exact he
     ·exact HZ j (by omega)
    subst he; go_wp2_with (go_at_call 332; refine (HP wr 0).mono ?_; rintro e w' ⟨rfl, rfl⟩); go_roundw
    case rel => exact ⟨i + 1, by omega, by go_num, a0.out, f0.out⟩
    case measure => simp [intOf]; omega
   ·have d0 := sK (kT (by rw [e0.out]; exact hin) HZ (by rw [<- HY.out]; exact he))
    have l0 : ((y : Int) != 0) = true := by rw [bne_iff_ne]; omega
    clear he; go_wp2_with (go_at_call 332; refine (HP wr y).mono ?_; rintro e w' ⟨rfl, rfl⟩); go_ret; exact ⟨by rw [d0.out]; rfl, a0.symm⟩
  ·obtain rfl : i = n := by omega
   have d0 := sK (show nzI l = -1 from Vg (by rw [e0.out]; exact HZ.out)); go_wp2; go_ret; exact ⟨by rw [d0.out]; rfl, a0.symm⟩
theorem Qu (w : WQ) (A : OQ) (n c : Nat) (l : NQ) (hr : RdN w A n c l) : cQ 271 #[.slice A n c, .func (Fn.func 270) #[] #[]] w (Ba (.int .i64 (-1)) w) := by
 have h0 := hr.le63
 have HR := sK hr
 have HP := sK pY
 clear hr
 go_enter Tryz.func271, Tryz.ntmps271
 go_wp2
 go_loopw [8] (fun b0 wr => ∃ i, i <= n ∧ b0 = nQ i ∧ wr = w) (fun b0 _ => n - (intOf b0).toNat)
 case atStart => exact ⟨0, qe _, rfl, rfl⟩
 case round =>
  obtain ⟨i, hi, rfl, c0⟩ := hrel; have a0 := sK c0; clear c0
  by_cases hin : i < n
  ·obtain ⟨b, i0, hA, _, hc⟩ := (show RdN wr A n c l by rw [a0.out]; exact HR.out).at hin
   subst hA; have g0 : (i : Int) < (n : Int) := by omega
   generalize l.getD i 0 = y at *; go_wp2_with (go_at_call 270; refine (HP wr y).mono ?_; rintro e w' ⟨rfl, rfl⟩); go_roundw
   case rel => exact ⟨i + 1, by omega, by go_num, a0.out⟩
   case measure => simp [intOf]; omega
  ·obtain rfl : i = n := by omega
   go_wp2; go_ret; exact ⟨rfl, a0.symm⟩
theorem Lz (w : WQ) (A : OQ) (n c : Nat) (l : NQ) (hr : RdN w A n c l) : cQ 269 #[.slice A n c, .func (Fn.func 270) #[] #[]] w (Ba (.bool false) w) := by
 have HI := sK (Qu w A n c l hr)
 clear hr
 go_enter Tryz.func269, Tryz.ntmps269
 go_wp2_with (go_at_call 271; refine HI.mono ?_; rintro e w' ⟨rfl, rfl⟩)
 go_ret
 exact ⟨rfl, rfl⟩
def colM (R : LQ) (i : Nat) : NQ := R.map (fun r => r.getD i 0)
theorem jL (R : LQ) (i : Nat) : (colM R i).length = R.length := by simp [colM]
theorem kG (R : LQ) (i : Nat) {j : Nat} (hj : j < R.length) : (colM R i).getD j 0 = (R.getD j []).getD i 0 := by
 simp [colM, qa, hj]
theorem Xm (w : WQ) (P M : Int) (A : OQ) (n c : Nat) (N : Int) (B : OQ) (k cg : Nat) (R : LQ) (hR : RdM w B k cg R) (hk : k <= 1000) (i : Nat) (hi : ∀ j, j < k -> i < (R.getD j []).length) :
  cQ 261 #[.agg #[.int .i64 P, .int .i64 M, .slice A n c, .int .i64 N, .slice B k cg], nQ i] w (RetN k (colM R i) w) := by
 obtain ⟨i0, x0, e1, f1, g1⟩ := info_parts Bj
 have HR := sK hR
 have HI := sK hi
 have d0 : Hid ((colM R i).length = k) := sK (by rw [jL, hR.len])
 have c0 : Hid (∀ j, j < k -> (colM R i).getD j 0 = (R.getD j []).getD i 0) := sK fun j hj => kG R i (by rw [hR.len]; exact hj)
 have q1 := hR.cap
 have b1 := hR.max
 unfold maxLen at b1
 unfold RetN
 clear hR hi
 generalize colM R i = L at *
 go_enter Tryz.func261, Tryz.ntmps261
 go_upto_region 1 with fail
 obtain ⟨W, hW, t0, h0, b0⟩ := mk1 w #[.int .i64 P, .int .i64 M, .slice A n c, .int .i64 N, .slice B k cg] 27
 rw [hW]
 clear hW
 have HC : Hid (∀ wx, From W wx -> wx.cell? ⟨w.heap.size, 4, none⟩ = some (.slice B k cg)) := sK fun wx hx => (b0.below hx).c4
 have HW : Hid (∀ wx, From W wx -> From w wx) := sK fun wx hx => h0.trans (qf hx (by omega))
 have z0 := HC W (From.refl W)
 have r1 : w.heap.size < W.heap.size := by omega
 clear b0 h0 t0
 go_upto_region 2 with (at_make; refine Bd rfl _ _ _ rfl i0 Tryz.underlying22 x0 e1 f1 g1 _ _ k rfl rfl (by omega) ?_; intro w1 m0 e0 c1)
 have a1 := HC w1 e0
 have l0 : W.heap.size < w1.heap.size := by omega
 clear z0 c1
 go_wp2
 go_loopw [15] (fun jv wr => ∃ j : Nat, j <= k ∧ jv = nQ j ∧ OwnN wr W.heap.size (sQ W.heap.size) k k (L.take j ++ List.replicate (k - j) 0) ∧ From W wr ∧ W.heap.size < wr.heap.size) (fun jv _ => k - (intOf jv).toNat)
 case atStart => exact ⟨0, qe _, rfl, by simpa using m0, e0, l0⟩
 case round =>
  clear m0 e0 l0 a1; obtain ⟨j, hj, rfl, hO, hF, d1⟩ := hrel; have HO := sK hO; have HF := sK hF; clear hO hF
  by_cases hjk : j < k
  ·obtain ⟨b, i1, Ai, ci, hB, v0, j0, a0⟩ := HR.at hjk
   subst hB; have hc := ((HW wr HF.out).cell (p := ⟨b, i1 + j, none⟩) v0).trans j0; have y0 := HI j hjk; obtain ⟨b2, s1, q0, j1, k1⟩ := (a0.below (HW wr HF.out)).at y0; subst q0; have o1 := a0.le63; have n1 : (j : Int) < (k : Int) := by omega
   have m1 : (i : Int) < ((R.getD j []).length : Int) := by omega
   have l1 := HO.free j; have w0 := HO.cell hjk; generalize (L.take j ++ List.replicate (k - j) 0).getD j 0 = old at w0; have n0 : (R.getD j []).getD i 0 < 1000000 := a0.sm.at i; have f0 := HO.set j n0; have HS := sK (Dw L 0 (k := j) (by rw [d0.out]; exact hjk)); have g0 := Fd (0 : Nat) (pre := L.take j) (n := k) (k := j) (by rw [Sq, d0.out]; omega) hjk (L.getD j 0); rw [c0 j hjk] at g0; rw [g0, <- c0 j hjk, <- HS.out, c0 j hjk] at f0; have o0 := sK f0; clear f0 g0 j0 a0 n0; generalize (R.getD j []).getD i 0 = y at *; generalize (R.getD j []).length = m at *; go_wp2; go_roundw
   case rel => exact ⟨j + 1, by omega, by go_num, o0.out, HF.setCell (p := ⟨W.heap.size, j, none⟩) (qb _) _, by simpa [World.setCell] using d1⟩
   case measure => simp [intOf]; omega
  ·obtain rfl : j = k := by omega
   have r0 : OwnN wr W.heap.size (sQ W.heap.size) j j L := by
    have := HO.out; rw [qq (by rw [d0.out]; exact qb _), qaa, qao, qas] at this; exact this
   go_wp2; go_ret; exact ⟨_, j, rfl, r0.mono (by omega), HW _ HF.out⟩
theorem Dv (w : WQ) (cs : Array Value) (t : TypeId) : ∀ j u, cs.toList[j]? = some u -> (w.alloc (.cells cs t)).cell? ((⟨w.heap.size, 0, none⟩ : Addr).add j) = some u := fun j u h => by
 have hb := Blk.new w cs t
 rw [Array.getElem?_toList] at h
 obtain ⟨hj, rfl⟩ := qg.1 h
 rw [show (⟨w.heap.size, 0, none⟩ : Addr).add j = ⟨w.heap.size, j, none⟩ by simp [Addr.add] <;> omega]
 exact hb.cell (i := j) hj
def Kp (X : Nat -> Prop) (w w' : WQ) : Prop := w'.os = w.os ∧ w'.tape = w.tape ∧ w'.output = w.output ∧ w.heap.size <= w'.heap.size ∧ ∀ i, i < w.heap.size -> X i -> w'.heap[i]? = w.heap[i]?
section
variable {X : Nat -> Prop} {w w' w2 : WQ}
theorem Kp.refl (X : Nat -> Prop) (w : WQ) : Kp X w w := ⟨rfl, rfl, rfl, qb _, fun _ _ _ => rfl⟩
theorem Kp.grown (h : Kp X w w') {r : Option Nat} (hg : w'.grownBy w2 r) (hr : ∀ i, r = some i -> ¬ X i ∨ w.heap.size <= i) : Kp X w w2 :=
 ⟨hg.os.trans h.1, hg.tape.trans h.2.1, hg.output.trans h.2.2.1, qs h.2.2.2.1 hg.size, fun i hi hx => (hg.block i (qk hi h.2.2.2.1) (fun e => by rcases hr i e.symm with h1 | h1 <;> first | exact h1 hx | omega)).trans (h.2.2.2.2 i hi hx)⟩
theorem Kp.from (h : Kp X w w') (hg : From w' w2) : Kp X w w2 := h.grown (Aw hg none) (fun i e => by cases e)
theorem Kp.below {B : Nat} (h : Kp X w w') (hB : B <= w.heap.size) (hX : ∀ i, i < B -> X i) : Below B w w' := ⟨h.1, h.2.1, h.2.2.1, h.2.2.2.1, fun i hi => h.2.2.2.2 i (by omega) (hX i hi)⟩
end
end Go.Proofs.YtoalkldfhkabnaaGreatDoor
