/- Part of WholeTraces. -/
import Derived.Test.YtoalkldfhkabnaaGreatDoorW00
import Derived.Test.YtoalkldfhkabnaaGreatDoorW10
import Derived.Test.YtoalkldfhkabnaaGreatDoorW17
import Derived.Test.YtoalkldfhkabnaaGreatDoorW24
set_option linter.all false
set_option maxRecDepth 10000
set_option maxHeartbeats 16000000
namespace Go.Proofs.YtoalkldfhkabnaaGreatDoor
open Go.RowKit Fq
theorem gQ (w : WQ) (F S : FD) (hF : F.Ok) (hS : S.Ok) (A As : OQ) (n c ns cs : Nat) : cQ 8 #[fldV S As ns cs, fldV F A n c] w (Ah (.bool (decide (S.p = F.p ∧ (F.m + 1) % (S.m + 1) = 0))) w) := by
 have w0 := hF.bd
 have x0 := hS.bd
 unfold fldV
 obtain ⟨M, hM⟩ := xQ (F.m + 1)
 obtain ⟨Ms, h0⟩ := xQ (S.m + 1)
 rw [<- hM, <- h0]
 have d1 : M <= 8 := by omega
 have g1 : 1 <= Ms ∧ Ms <= 8 := by omega
 clear hM h0 hF hS w0 x0
 generalize F.p = p at *
 generalize S.p = ps at *
 by_cases hp : ps = p
 ·subst hp
  have e1 := Cg M Ms; have i1 : ¬ Ms = 0 := by omega
  have f1 : 1 <= (Ms : Int) := by omega
  by_cases hd : M % Ms = 0
  ·have e : decide (ps = ps ∧ M % Ms = 0) = true := by simp [hd]
   rw [e]; rw [hd] at e1; clear e hd; go_enter Tryz.func8, Tryz.ntmps8; go_wp2; go_ret; exact ⟨rfl, (Ac w _).trans (qf (Ac _ _) (by simp))⟩
  ·have e : decide (ps = ps ∧ M % Ms = 0) = false := by simp [hd]
   have hb : (((M % Ms : Nat) : Int) == 0) = false := by rw [beq_eq_false_iff_ne]; omega
   rw [e]; clear e hd; generalize M % Ms = r at *; go_enter Tryz.func8, Tryz.ntmps8; go_wp2; go_ret; exact ⟨rfl, (Ac w _).trans (qf (Ac _ _) (by simp))⟩
 ·have e : decide (ps = p ∧ M % Ms = 0) = false := by simp [hp]
  have hb : ((ps : Int) == (p : Int)) = false := by rw [beq_eq_false_iff_ne]; omega
  rw [e]; clear e; go_enter Tryz.func8, Tryz.ntmps8; go_wp2; go_ret; exact ⟨rfl, (Ac w _).trans (qf (Ac _ _) (by simp))⟩
theorem Qp (w : WQ) (A B : OQ) (n k c d : Nat) (l r : NQ) (hl : RdN w A n c l) (hr : RdN w B k d r) : cQ 68 #[.slice A n c, .slice B k d] w (Ah (.bool (decide (l = r))) w) := by
 have a0 := hl.len
 have b0 := hr.len
 have c1 := hl.le63
 by_cases hnk : n = k
 ·subst hnk
  have HL := sK hl; have HR := sK hr; have a1 := sK a0; have b1 := sK b0; have q0 : Hid ((∀ j, j < n -> l.getD j 0 = r.getD j 0) -> l = r) := sK fun h => Tq (by rw [a0, b0]) fun j h1 h2 => by
   have := h j (by omega); rw [qa, qa, qh h1, qh h2] at this; exact this
  obtain ⟨b, hb⟩ := xQ (decide (l = r)); have HB := sK hb; rw [<- hb]; clear hb hl hr a0 b0; go_enter Tryz.func68, Tryz.ntmps68; go_upto_region 4 with fail
  go_loopw [5] (fun jv wr => ∃ j : Nat, j <= n ∧ jv = nQ j ∧ (∀ i, i < j -> l.getD i 0 = r.getD i 0) ∧ From w wr) (fun jv _ => n - (intOf jv).toNat)
  case atStart => exact ⟨0, qe _, rfl, fun i hi => by omega, bR⟩
  case round =>
   obtain ⟨j, hj, rfl, i0, hF⟩ := hrel; obtain ⟨wo, rfl⟩ := xQ wr; have d0 := sK i0; have HF := sK hF; clear i0 hF
   by_cases hjn : j < n
   ·have y0 : (j : Int) < (n : Int) := by omega
    obtain ⟨lb, lo, t0, j0, l0⟩ := HL.at hjn; subst t0; obtain ⟨rb, ro, v0, m0, n0⟩ := HR.at hjn; subst v0; have e0 : Hid (∀ wx, From w wx -> wx.cell? ⟨lb, lo + j, none⟩ = some (nQ (l.getD j 0))) := sK fun wx hx => (hx.cell (p := ⟨lb, lo + j, none⟩) j0).trans l0
    have f0 : Hid (∀ wx, From w wx -> wx.cell? ⟨rb, ro + j, none⟩ = some (nQ (r.getD j 0))) := sK fun wx hx => (hx.cell (p := ⟨rb, ro + j, none⟩) m0).trans n0
    have r0 : Hid (l.getD j 0 ≠ r.getD j 0 -> b = false) := sK fun h => by
     rw [HB.out, decide_eq_false_iff_not]; intro e; exact h (by rw [e])
    have o0 : Hid (l.getD j 0 = r.getD j 0 -> ∀ i, i < j + 1 -> l.getD i 0 = r.getD i 0) := sK fun h i hi => by
     by_cases e : i = j
     ·rw [e]; exact h
     ·exact d0 i (by omega)
    clear l0 n0 j0 m0; generalize l.getD j 0 = x at *; generalize r.getD j 0 = y at *; go_upto_region 6 with fail
    have g0 : From wo wo := From.refl wo
    by_cases hxy : x = y
    ·have z0 : ((x : Int) != (y : Int)) = false := by rw [hxy]; simp
     have HX := sK hxy; clear hxy; refine wpT 9 26 [.v (.slice (some ⟨lb, lo, none⟩) n c), .v (nQ j), .v (.pointer (some ⟨lb, lo + j, none⟩)), .v (nQ x), .v (.slice (some ⟨rb, ro, none⟩) n d), .v (nQ j), .v (.pointer (some ⟨rb, ro + j, none⟩)), .v (nQ y), .v (.bool false)] wo (by kernel_rfl) (by kernel_rfl) (by kernel_rfl) rfl (From.drew g0) ?_; simp only [Tk]
     iterate 9 (refine .z (fun wx hx _ hK => by first | (go_simp; exact Kz hK) | (have hc := e0 wx (Aa hx HF.out); go_simp; exact Kz hK) | (have hc := f0 wx (Aa hx HF.out); go_simp; exact Kz hK)) ?_; simp only [Pt])
     refine .nil fun w5 c0 _ => ?_
     go_wp2; go_roundw
     case rel => exact ⟨j + 1, by omega, by go_num, o0 HX.out, Aa c0 HF.out⟩
     case measure => simp [intOf] <;> omega
    ·have z0 : ((x : Int) != (y : Int)) = true := by rw [bne_iff_ne]; omega
     have HX := sK (r0 hxy); have j1 : ¬ (x : Int) = (y : Int) := by omega
     clear hxy; refine wpT 9 26 [.v (.slice (some ⟨lb, lo, none⟩) n c), .v (nQ j), .v (.pointer (some ⟨lb, lo + j, none⟩)), .v (nQ x), .v (.slice (some ⟨rb, ro, none⟩) n d), .v (nQ j), .v (.pointer (some ⟨rb, ro + j, none⟩)), .v (nQ y), .v (.bool true)] wo (by kernel_rfl) (by kernel_rfl) (by kernel_rfl) rfl (From.drew g0) ?_; simp only [Tk]
     iterate 9 (refine .z (fun wx hx _ hK => by first | (go_simp; exact Kz hK) | (have hc := e0 wx (Aa hx HF.out); go_simp; exact Kz hK) | (have hc := f0 wx (Aa hx HF.out); go_simp; exact Kz hK)) ?_; simp only [Pt])
     refine .nil fun w5 c0 _ => ?_
     go_wp2; go_ret; exact ⟨by rw [HX.out]; rfl, Aa c0 HF.out⟩
   ·obtain rfl : j = n := by omega
    have y0 : decide ((j : Int) < (j : Int)) = false := by simp
    have HT : Hid (b = true) := sK (by rw [HB.out, decide_eq_true_iff]; exact q0 d0.out); go_wp2; go_ret; exact ⟨by rw [HT.out]; rfl, HF.out⟩
 ·have e : decide (l = r) = false := by rw [decide_eq_false_iff_not]; intro h; rw [h] at a0; omega
  have hb : ((n : Int) != (k : Int)) = true := by rw [bne_iff_ne]; omega
  rw [e]; clear e; go_enter Tryz.func68, Tryz.ntmps68; go_wp2; go_ret; exact ⟨rfl, bR⟩
theorem Jv (w : WQ) (A B : OQ) (n k c d : Nat) (R S : LQ) (hl : RdM w A n c R) (hr : RdM w B k d S) : cQ 30 #[.slice A n c, .slice B k d] w (Ah (.bool (decide (R = S))) w) := by
 have c0 := hl.len
 have q0 := hr.len
 have a1 := hl.le63
 by_cases hnk : n = k
 ·subst hnk
  have HL := sK hl; have HR := sK hr; have v0 : Hid ((∀ j, j < n -> R.getD j [] = S.getD j []) -> R = S) := sK fun h => Tq (by rw [c0, q0]) fun j h1 h2 => by
   have := h j (by omega); rw [qa, qa, qh h1, qh h2] at this; exact this
  obtain ⟨b, hb⟩ := xQ (decide (R = S)); have HB := sK hb; rw [<- hb]; clear hb hl hr c0 q0; go_enter Tryz.func30, Tryz.ntmps30; go_upto_region 4 with fail
  go_loopw [5] (fun jv wr => ∃ j : Nat, j <= n ∧ jv = nQ j ∧ (∀ i, i < j -> R.getD i [] = S.getD i []) ∧ From w wr) (fun jv _ => n - (intOf jv).toNat)
  case atStart => exact ⟨0, qe _, rfl, fun i hi => by omega, bR⟩
  case round =>
   obtain ⟨j, hj, rfl, i0, hF⟩ := hrel; obtain ⟨wo, rfl⟩ := xQ wr; have e0 := sK i0; have HF := sK hF; clear i0 hF
   by_cases hjn : j < n
   ·have z0 : (j : Int) < (n : Int) := by omega
    obtain ⟨lb, lo, Al, cl, x0, j0, l0, m0⟩ := HL.at hjn; subst x0; obtain ⟨rb, ro, Ar, cr, y0, n0, o0, r0⟩ := HR.at hjn; subst y0; have a0 := sK fun (wx : WQ) (h9 : From w wx) => Qp wx Al Ar _ _ cl cr _ _ (m0.below h9) (r0.below h9)
    have f0 : Hid (∀ wx, From w wx -> wx.cell? ⟨lb, lo + j, none⟩ = some (.slice Al (R.getD j []).length cl)) := sK fun wx hx => (hx.cell (p := ⟨lb, lo + j, none⟩) j0).trans l0
    have g0 : Hid (∀ wx, From w wx -> wx.cell? ⟨rb, ro + j, none⟩ = some (.slice Ar (S.getD j []).length cr)) := sK fun wx hx => (hx.cell (p := ⟨rb, ro + j, none⟩) n0).trans o0
    have w0 : Hid (R.getD j [] ≠ S.getD j [] -> b = false) := sK fun h => by
     rw [HB.out, decide_eq_false_iff_not]; intro e; exact h (by rw [e])
    have t0 : Hid (R.getD j [] = S.getD j [] -> ∀ i, i < j + 1 -> R.getD i [] = S.getD i []) := sK fun h i hi => by
     by_cases e : i = j
     ·rw [e]; exact h
     ·exact e0 i (by omega)
    clear l0 o0 j0 n0 m0 r0; generalize R.getD j [] = x at *; generalize S.getD j [] = y at *; generalize hxl : x.length = xn at *; generalize hyl : y.length = yn at *; clear hxl hyl; go_upto_region 6 with fail
    have h0 : From wo wo := From.refl wo
    by_cases hxy : x = y
    ·rw [decide_eq_true hxy] at a0
     have HX := sK hxy; clear hxy; refine wpT 10 27 [.v (.slice (some ⟨lb, lo, none⟩) n c), .v (nQ j), .v (.pointer (some ⟨lb, lo + j, none⟩)), .v (.slice Al xn cl), .v (.slice (some ⟨rb, ro, none⟩) n d), .v (nQ j), .v (.pointer (some ⟨rb, ro + j, none⟩)), .v (.slice Ar yn cr), .v (.bool true), .v (.bool false)] wo (by kernel_rfl) (by kernel_rfl) (by kernel_rfl) rfl (From.drew h0) ?_; simp only [Tk]
     iterate 10 (refine .z (fun wx hx _ hK => by first | (go_simp; exact Kz hK) | (have hc := f0 wx (Aa hx HF.out); go_simp; exact Kz hK) | (have hc := g0 wx (Aa hx HF.out); go_simp; exact Kz hK) | (go_simp; refine (a0 wx (Aa hx HF.out)).mono ?_; rintro e w' ⟨rfl, b0⟩; exact hK.out _ _ rfl b0)) ?_; simp only [Pt])
     refine .nil fun w5 d0 _ => ?_
     go_wp2; go_roundw
     case rel => exact ⟨j + 1, by omega, by go_num, t0 HX.out, Aa d0 HF.out⟩
     case measure => simp [intOf] <;> omega
    ·rw [decide_eq_false hxy] at a0
     have HX := sK (w0 hxy); clear hxy; refine wpT 10 27 [.v (.slice (some ⟨lb, lo, none⟩) n c), .v (nQ j), .v (.pointer (some ⟨lb, lo + j, none⟩)), .v (.slice Al xn cl), .v (.slice (some ⟨rb, ro, none⟩) n d), .v (nQ j), .v (.pointer (some ⟨rb, ro + j, none⟩)), .v (.slice Ar yn cr), .v (.bool false), .v (.bool true)] wo (by kernel_rfl) (by kernel_rfl) (by kernel_rfl) rfl (From.drew h0) ?_; simp only [Tk]
     iterate 10 (refine .z (fun wx hx _ hK => by first | (go_simp; exact Kz hK) | (have hc := f0 wx (Aa hx HF.out); go_simp; exact Kz hK) | (have hc := g0 wx (Aa hx HF.out); go_simp; exact Kz hK) | (go_simp; refine (a0 wx (Aa hx HF.out)).mono ?_; rintro e w' ⟨rfl, b0⟩; exact hK.out _ _ rfl b0)) ?_; simp only [Pt])
     refine .nil fun w5 d0 _ => ?_
     go_wp2; go_ret; exact ⟨by rw [HX.out]; rfl, Aa d0 HF.out⟩
   ·obtain rfl : j = n := by omega
    have z0 : decide ((j : Int) < (j : Int)) = false := by simp
    have HT : Hid (b = true) := sK (by rw [HB.out, decide_eq_true_iff]; exact v0 e0.out); go_wp2; go_ret; exact ⟨by rw [HT.out]; rfl, HF.out⟩
 ·have e : decide (R = S) = false := by rw [decide_eq_false_iff_not]; intro h; rw [h] at c0; omega
  have hb : ((n : Int) != (k : Int)) = true := by rw [bne_iff_ne]; omega
  rw [e]; clear e; go_enter Tryz.func30, Tryz.ntmps30; go_wp2; go_ret; exact ⟨rfl, bR⟩
theorem Xw (w : WQ) (S : FD) (A B : OQ) (c d : Nat) (hA : RdN w A (modL S).length c (modL S)) (hB : RdN w B (modL S).length d (modL S)) : cQ 29 #[Ax S A c, Ax S B d] w (Ah (.bool true) w) := by
 have f1 := hA.le63
 have e1 : ∀ A c, Ax S A c = .agg #[nQ S.p, .int .i64 ((S.m + 1 : Nat) : Int), .slice A (modL S).length c] := fun _ _ => rfl
 have HA := sK hA
 have HB := sK hB
 simp only [e1]
 clear e1 hA hB
 generalize modL S = l at *
 generalize l.length = n at *
 generalize S.m + 1 = M at *
 generalize S.p = p at *
 go_enter Tryz.func29, Tryz.ntmps29
 go_upto_region 1 with fail
 obtain ⟨W, hW, d0, a0, b0, b1⟩ := mk2 w #[nQ p, nQ M, .slice A n c] 24 #[nQ p, nQ M, .slice B n d] 24
 rw [hW]
 clear hW
 have HC : Hid (∀ wx, From W wx -> (wx.cell? ⟨w.heap.size, 0, none⟩ = some (nQ p) ∧ wx.cell? ⟨w.heap.size, 1, none⟩ = some (nQ M) ∧ wx.cell? ⟨w.heap.size, 2, none⟩ = some (.slice A n c)) ∧ (wx.cell? ⟨w.heap.size + 1, 0, none⟩ = some (nQ p) ∧ wx.cell? ⟨w.heap.size + 1, 1, none⟩ = some (nQ M) ∧ wx.cell? ⟨w.heap.size + 1, 2, none⟩ = some (.slice B n d))) := sK fun wx hx =>
  have h0 := b0.below hx; have h1 := b1.below hx
  ⟨⟨h0.c0, h0.c1, h0.c2⟩, h1.c0, h1.c1, h1.c2⟩
 have HW : Hid (∀ wx, From W wx -> From w wx) := sK fun wx hx => a0.trans (qf hx (by omega))
 clear b0 b1 a0 d0
 obtain ⟨⟨p0, p1, p2⟩, q0, q1, q2⟩ := HC W (From.refl W)
 go_upto_region 4 with fail
 clear p0 p1 p2 q0 q1 q2
 go_loopw [5] (fun jv wr => ∃ j : Nat, j <= n ∧ jv = nQ j ∧ From W wr) (fun jv _ => n - (intOf jv).toNat)
 case atStart => exact ⟨0, qe _, rfl, by first | exact From.refl _ | exact (From.refl _).drew⟩
 case round =>
  obtain ⟨j, hj, rfl, hF⟩ := hrel; obtain ⟨wo, rfl⟩ := xQ wr; have HF := sK hF; clear hF; obtain ⟨⟨p0, p1, p2⟩, q0, q1, q2⟩ := HC wo HF.out
  by_cases hjn : j < n
  ·have a1 : (j : Int) < (n : Int) := by omega
   obtain ⟨lb, lo, w0, i0, j0⟩ := HA.at hjn; subst w0; obtain ⟨rb, ro, x0, l0, m0⟩ := HB.at hjn; subst x0; have n0 : Hid (∀ wx, From w wx -> wx.cell? ⟨lb, lo + j, none⟩ = some (nQ (l.getD j 0))) := sK fun wx hx => (hx.cell (p := ⟨lb, lo + j, none⟩) i0).trans j0
   have o0 : Hid (∀ wx, From w wx -> wx.cell? ⟨rb, ro + j, none⟩ = some (nQ (l.getD j 0))) := sK fun wx hx => (hx.cell (p := ⟨rb, ro + j, none⟩) l0).trans m0
   clear j0 m0 i0 l0; generalize l.getD j 0 = x at *; have g1 : ((x : Int) != (x : Int)) = false := by simp
   go_upto_region 6 with fail
   clear p0 p1 p2 q0 q1 q2; have y0 : From wo wo := From.refl wo; refine wpT 11 45 [.v (.pointer (some ⟨w.heap.size, 2, none⟩)), .v (.slice (some ⟨lb, lo, none⟩) n c), .v (nQ j), .v (.pointer (some ⟨lb, lo + j, none⟩)), .v (nQ x), .v (.pointer (some ⟨w.heap.size + 1, 2, none⟩)), .v (.slice (some ⟨rb, ro, none⟩) n d), .v (nQ j), .v (.pointer (some ⟨rb, ro + j, none⟩)), .v (nQ x), .v (.bool false)] wo (by kernel_rfl) (by kernel_rfl) (by kernel_rfl) rfl (From.drew y0) ?_; simp only [Tk]
   iterate 11 (refine .z (fun wx hx _ hK => by first | (go_simp; exact Kz hK) | (obtain ⟨⟨p0, p1, p2⟩, q0, q1, q2⟩ := HC wx (Aa hx HF.out); go_simp; exact Kz hK) | (have hc := n0 wx (HW wx (Aa hx HF.out)); go_simp; exact Kz hK) | (have hc := o0 wx (HW wx (Aa hx HF.out)); go_simp; exact Kz hK)) ?_; simp only [Pt])
   refine .nil fun w5 d1 _ => ?_
   go_wp2; go_roundw
   case rel => exact ⟨j + 1, by omega, by go_num, Aa d1 HF.out⟩
   case measure => simp [intOf] <;> omega
  ·obtain rfl : j = n := by omega
   have a1 : decide ((j : Int) < (j : Int)) = false := by simp
   go_wp2; go_ret; exact ⟨rfl, HW _ HF.out⟩
theorem Yt (w : WQ) (S : FD) (N : Nat) (K : LQ) (A B : OQ) (c d : Nat) (G H : OQ) (l gc hc : Nat) (hA : RdN w A (modL S).length c (modL S)) (hB : RdN w B (modL S).length d (modL S)) (hG : RdM w G l gc K) (hH : RdM w H l hc K) : cQ 12 #[Dj S A c N G l gc, Dj S B d N H l hc] w (Ah (.bool true) w) := by
 have f0 := fun (wx : WQ) (h9 : From w wx) => Xw wx S A B c d (hA.below h9) (hB.below h9)
 have g0 := fun (wx : WQ) (h9 : From w wx) => Jv wx G H l l gc hc K K (hG.below h9) (hH.below h9)
 rw [decide_eq_true (show K = K from rfl)] at g0
 have e1 : ∀ A c, Ax S A c = .agg #[nQ S.p, .int .i64 ((S.m + 1 : Nat) : Int), .slice A (modL S).length c] := fun _ _ => rfl
 have e2 : ∀ A c N B k cg, Dj S A c N B k cg = .agg #[nQ S.p, .int .i64 ((S.m + 1 : Nat) : Int), .slice A (modL S).length c, nQ N, .slice B k cg] := fun _ _ _ _ _ _ => rfl
 simp only [e1] at f0
 simp only [e2]
 have r0 := sK f0
 have t0 := sK g0
 clear e1 e2 hA hB hG hH f0 g0
 generalize (modL S).length = n at *
 generalize S.m + 1 = M at *
 generalize S.p = p at *
 go_enter Tryz.func12, Tryz.ntmps12
 go_upto_region 1 with fail
 obtain ⟨W, hW, d0, a0, b0, b1⟩ := mk2 w #[nQ p, nQ M, .slice A n c, nQ N, .slice G l gc] 27 #[nQ p, nQ M, .slice B n d, nQ N, .slice H l hc] 27
 rw [hW]
 clear hW
 have HC : Hid (∀ wx, From W wx -> (wx.cell? ⟨w.heap.size, 0, none⟩ = some (nQ p) ∧ wx.cell? ⟨w.heap.size, 1, none⟩ = some (nQ M) ∧ wx.cell? ⟨w.heap.size, 2, none⟩ = some (.slice A n c) ∧ wx.cell? ⟨w.heap.size, 3, none⟩ = some (nQ N) ∧ wx.cell? ⟨w.heap.size, 4, none⟩ = some (.slice G l gc)) ∧ (wx.cell? ⟨w.heap.size + 1, 0, none⟩ = some (nQ p) ∧ wx.cell? ⟨w.heap.size + 1, 1, none⟩ = some (nQ M) ∧ wx.cell? ⟨w.heap.size + 1, 2, none⟩ = some (.slice B n d) ∧ wx.cell? ⟨w.heap.size + 1, 3, none⟩ = some (nQ N) ∧ wx.cell? ⟨w.heap.size + 1, 4, none⟩ = some (.slice H l hc))) := sK fun wx hx =>
  have h0 := b0.below hx; have h1 := b1.below hx
  ⟨⟨h0.c0, h0.c1, h0.c2, h0.c3, h0.c4⟩, h1.c0, h1.c1, h1.c2, h1.c3, h1.c4⟩
 have v0 := sK a0
 have HW : Hid (∀ wx, From W wx -> From w wx) := sK fun wx hx => a0.trans (qf hx (by omega))
 clear b0 b1 a0 d0
 obtain ⟨⟨p0, p1, p2, p3, p4⟩, q0, q1, q2, q3, q4⟩ := HC W (From.refl W)
 go_wp2_with (first | (go_at_call 29; refine (r0 W v0.out).mono ?_; rintro e w2 ⟨rfl, e0⟩; obtain ⟨⟨i1, j1, k1, l1, m1⟩, n1, o1, r1, s1, t1⟩ := HC w2 e0) | (go_at_call 30; refine (t0 w2 (HW w2 e0)).mono ?_; rintro e w3 ⟨rfl, z0⟩))
 go_ret
 exact ⟨rfl, HW _ (Aa z0 e0)⟩
structure RdMZ (w : WQ) (A : OQ) (n c : Nat) (R : List (List Int)) : Prop where
 len : R.length = n
 cap : n <= c
 max : c <= maxLen
 cells : 0 < n -> ∃ b a0, A = some ⟨b, a0, none⟩ ∧ b < w.heap.size ∧ ∀ i, i < n -> ∃ Ai ci, w.cell? ⟨b, a0 + i, none⟩ = some (.slice Ai (R.getD i []).length ci) ∧ RdZ w Ai (R.getD i []).length ci (R.getD i [])
section
variable {w w' : WQ} {A : OQ} {n c : Nat} {R : List (List Int)}
theorem RdMZ.below (h : RdMZ w A n c R) (hb : From w w') : RdMZ w' A n c R :=
 ⟨h.len, h.cap, h.max, fun hn => by
  obtain ⟨b, a0, e, j0, hc⟩ := h.cells hn; refine ⟨b, a0, e, qk j0 hb.size, fun i hi => ?_⟩; obtain ⟨Ai, ci, h1, h2⟩ := hc i hi; exact ⟨Ai, ci, (hb.cell (p := ⟨b, a0 + i, none⟩) j0).trans h1, h2.below hb⟩⟩
theorem RdMZ.at (h : RdMZ w A n c R) {i : Nat} (hi : i < n) : ∃ b a0 Ai ci, A = some ⟨b, a0, none⟩ ∧ b < w.heap.size ∧ w.cell? ⟨b, a0 + i, none⟩ = some (.slice Ai (R.getD i []).length ci) ∧ RdZ w Ai (R.getD i []).length ci (R.getD i []) := by
 obtain ⟨b, a0, e, hb, hc⟩ := h.cells (by omega)
 obtain ⟨Ai, ci, h1, h2⟩ := hc i hi
 exact ⟨b, a0, Ai, ci, e, hb, h1, h2⟩
theorem RdMZ.nat (h : RdMZ w A n c R) {F : FD} (hF : F.Ok) {m : Nat} (hl : ∀ i, i < n -> (R.getD i []).length = m) (hx : ∀ i, i < n -> ∀ j, j < m -> 0 <= (R.getD i []).getD j 0 ∧ (R.getD i []).getD j 0 < (F.q : Int)) :
  ∃ Rn, RdM w A n c Rn ∧ Mat F.fld m Rn := by
 have hq := hF.q256
 have eg : ∀ i, i < n -> (R.map (List.map Int.toNat)).getD i [] = (R.getD i []).map Int.toNat := fun i hi => by
  have : i < R.length := by rw [h.len]; exact hi
  rw [qa, qa, List.getElem?_map, qh this]; rfl
 have key : ∀ i, i < n -> ∀ Ai ci, RdZ w Ai (R.getD i []).length ci (R.getD i []) -> RdN w Ai (R.getD i []).length ci ((R.getD i []).map Int.toNat) ∧ ∀ x ∈ (R.getD i []).map Int.toNat, x < F.q := fun i hi Ai ci hz => hz.nat (by omega) fun j hj => hx i hi j (by rw [<- hl i hi]; exact hj)
 refine ⟨R.map (List.map Int.toNat), ⟨by rw [qak]; exact h.len, h.cap, h.max, fun hn => ?_⟩, fun r hr => ?_⟩
 ·obtain ⟨b, a0, e, j0, hc⟩ := h.cells hn
  refine ⟨b, a0, e, j0, fun i hi => ?_⟩; obtain ⟨Ai, ci, h1, h2⟩ := hc i hi; rw [eg i hi, qak]; exact ⟨Ai, ci, h1, (key i hi Ai ci h2).1⟩
 ·obtain ⟨i, hi, rfl⟩ := List.getElem_of_mem hr
  have g0 : i < n := by rw [qak, h.len] at hi; exact hi
  obtain ⟨b, a0, Ai, ci, _, _, _, h2⟩ := h.at g0; have e9 : (R.map (List.map Int.toNat))[i] = (R.getD i []).map Int.toNat := by
   have := eg i g0; rw [qa, qh hi] at this; exact this
  rw [e9]; exact ⟨by rw [qak]; exact hl i g0, (key i g0 Ai ci h2).2⟩
end
theorem RdN.toZ {w : WQ} {A : OQ} {n c : Nat} {l : NQ} (h : RdN w A n c l) : RdZ w A n c (l.map Int.ofNat) :=
 ⟨by rw [qak]; exact h.len, h.cap, h.max, fun hn => by
  obtain ⟨b, a0, e, j0, hc⟩ := h.cells hn; refine ⟨b, a0, e, j0, fun j hj => ?_⟩; have a2 : j < l.length := by rw [h.len]; exact hj
  rw [hc j hj]
  congr 2
  rw [qa, qa, List.getElem?_map, qh a2]; rfl⟩
def Vu (V : Prop) (v : Value) (_ : WQ) : Prop := ∃ k : Int, v = .int .i64 k ∧ (k = 0 -> V)
theorem Vu.lasting {V : Prop} : ∀ v w w', Below w.heap.size w w' -> Vu V v w -> Vu V v w' := fun _ _ _ _ h => h
theorem Wt (w : WQ) (F : FD) (hF : F.Ok) (A : OQ) (c : Nat) (hmod : RdN w A (modL F).length c (modL F)) (m : Nat) (hm1 : 1 <= m) (hm9 : m <= 64) (B : OQ) (n d : Nat) (R : List (List Int)) (hR : RdMZ w B n d R) :
  cQ 47 #[Ax F A c, matV m B n d] w (Says (n <= 256 ∧ (∀ i, i < n -> (R.getD i []).length = m) ∧ ∀ i, i < n -> ∀ j, j < m -> 0 <= (R.getD i []).getD j 0 ∧ (R.getD i []).getD j 0 < (F.q : Int)) w) := by
 have i1 := sK fun (wx : WQ) (h9 : From w wx) => Km wx (F.p : Int) ((F.m + 1 : Nat) : Int) A (modL F).length c _ (hmod.below h9).toZ
 have t0 := sK fun (wx : WQ) (B1 : OQ) (k1 d1 : Nat) (l : List Int) (hr : RdZ wx B1 k1 d1 l) => Tz wx F hF A (modL F).length c B1 k1 d1 l hr
 have e1 : Ax F A c = .agg #[nQ F.p, .int .i64 ((F.m + 1 : Nat) : Int), .slice A (modL F).length c] := rfl
 unfold fldV at t0
 rw [e1]
 unfold matV
 obtain ⟨V, hV⟩ : ∃ V : Prop, V = (n <= 256 ∧ (∀ i, i < n -> (R.getD i []).length = m) ∧ ∀ i, i < n -> ∀ j, j < m -> 0 <= (R.getD i []).getD j 0 ∧ (R.getD i []).getD j 0 < (F.q : Int)) := ⟨_, rfl⟩
 have HV := sK hV
 rw [<- hV]
 have HR := sK hR
 have m2 := hR.cap
 have f2 := hR.max
 unfold maxLen at f2
 obtain ⟨q, hq⟩ := xQ F.q
 rw [<- hq] at t0 HV
 clear hV hR hmod e1 hq hF
 generalize hmL : (modL F).length = mL at *
 clear hmL
 generalize F.m + 1 = M at *
 unfold Says at i1 t0
 go_enter Tryz.func47, Tryz.ntmps47
 go_upto_region 1 with fail
 obtain ⟨W, hW, w1, a1, b0, b1⟩ := mk2 w #[nQ F.p, nQ M, .slice A mL c] 24 #[nQ m, .slice B n d] 52
 rw [hW]
 clear hW
 have HC : Hid (∀ wx, From W wx -> (wx.cell? ⟨w.heap.size, 0, none⟩ = some (nQ F.p) ∧ wx.cell? ⟨w.heap.size, 1, none⟩ = some (nQ M) ∧ wx.cell? ⟨w.heap.size, 2, none⟩ = some (.slice A mL c)) ∧ (wx.cell? ⟨w.heap.size + 1, 0, none⟩ = some (nQ m) ∧ wx.cell? ⟨w.heap.size + 1, 1, none⟩ = some (.slice B n d))) := sK fun wx hx =>
  have h0 := b0.below hx; have h1 := b1.below hx
  ⟨⟨h0.c0, h0.c1, h0.c2⟩, h1.c0, h1.c1⟩
 have v1 := sK a1
 have HW : Hid (∀ wx, From W wx -> From w wx) := sK fun wx hx => a1.trans (qf hx (by omega))
 clear b0 b1 a1 w1
 obtain ⟨⟨p0, p1, p2⟩, q0, q1⟩ := HC W (From.refl W)
 go_upto_region 2 with (go_at_call 7; refine (i1 W v1.out).mono ?_; rintro e w2 ⟨⟨k0, rfl, _⟩, n1⟩)
 have m0 := sK n1
 clear n1 p0 p1 p2 q0 q1
 by_cases hk0 : k0 = 0
 ·subst hk0
  obtain ⟨⟨p0, p1, p2⟩, q0, q1⟩ := HC w2 m0.out; have k2 : ¬ (m : Int) < 0 := by omega
  have l2 : ¬ (256 : Int) < (m : Int) := by omega
  by_cases hn : n <= 256
  ·have y1 : ¬ (256 : Int) < (n : Int) := by omega
   go_upto_region 7 with fail
   clear p0 p1 p2 q0 q1
   go_loopw [6] (fun f0 wr => ∃ i : Nat, i <= n ∧ f0 = nQ i ∧ (∀ u, u < i -> (R.getD u []).length = m) ∧ From W wr) (fun f0 _ => n - (intOf f0).toNat)
   case atStart => exact ⟨0, qe _, rfl, fun u hu => by omega, m0.out⟩
   case round =>
    obtain ⟨i, hi, rfl, m1, o0⟩ := hrel; obtain ⟨wo, rfl⟩ := xQ wr; have w0 := sK m1; have HF := sK o0; clear m1 o0 m0; obtain ⟨⟨p0, p1, p2⟩, q0, q1⟩ := HC wo HF.out
    by_cases g0 : i < n
    ·have z1 : (i : Int) < (n : Int) := by omega
     obtain ⟨lb, lo, Ai, ci, y0, r0, i0, e0⟩ := HR.at g0; subst y0; have g2 : (R.getD i []).length <= 9223372036854775807 := by have h1 := e0.cap; have h2 := e0.max; unfold maxLen at h2; omega
     have n0 : Hid (∀ wx, From w wx -> wx.cell? ⟨lb, lo + i, none⟩ = some (.slice Ai (R.getD i []).length ci)) := sK fun wx hx => (hx.cell (p := ⟨lb, lo + i, none⟩) r0).trans i0
     obtain ⟨y, hy⟩ := xQ ((R.getD i []).length); have HY := sK hy; rw [<- hy] at n0 g2; clear i0 r0 e0 hy; go_upto_region 9 with fail
     clear p0 p1 p2 q0 q1; have v0 : From wo wo := From.refl wo
     by_cases hym : y = m
     ·have j2 : ((y : Int) != (m : Int)) = false := by rw [hym]; simp
      have s1 : Hid (∀ u, u < i + 1 -> (R.getD u []).length = m) := sK fun u hu => by
       by_cases e : u = i
       ·rw [e, <- HY.out]; exact hym
       ·exact w0 u (by omega)
      clear hym; refine wpT 9 60 [.v (.pointer (some ⟨w.heap.size + 1, 1, none⟩)), .v (.slice (some ⟨lb, lo, none⟩) n d), .v (nQ i), .v (.pointer (some ⟨lb, lo + i, none⟩)), .v (.slice Ai y ci), .v (nQ y), .v (pQ (w.heap.size + 1)), .v (nQ m), .v (.bool false)] wo (by kernel_rfl) (by kernel_rfl) (by kernel_rfl) rfl (From.drew v0) ?_; simp only [Tk]
      iterate 9 (refine .z (fun wx hx _ hK => by first | (go_simp; exact Kz hK) | (obtain ⟨⟨p0, p1, p2⟩, q0, q1⟩ := HC wx (Aa hx HF.out); go_simp; exact Kz hK) | (have hc := n0 wx (HW wx (Aa hx HF.out)); go_simp; exact Kz hK)) ?_; simp only [Pt])
      refine .nil fun w5 l0 _ => ?_
      go_wp2; go_roundw
      case rel => exact ⟨i + 1, by omega, by go_num, s1.out, Aa l0 HF.out⟩
      case measure => simp [intOf] <;> omega
     ·have j2 : ((y : Int) != (m : Int)) = true := by rw [bne_iff_ne]; omega
      have n2 : ¬ (y : Int) = (m : Int) := by omega
      clear hym; refine wpT 9 60 [.v (.pointer (some ⟨w.heap.size + 1, 1, none⟩)), .v (.slice (some ⟨lb, lo, none⟩) n d), .v (nQ i), .v (.pointer (some ⟨lb, lo + i, none⟩)), .v (.slice Ai y ci), .v (nQ y), .v (pQ (w.heap.size + 1)), .v (nQ m), .v (.bool true)] wo (by kernel_rfl) (by kernel_rfl) (by kernel_rfl) rfl (From.drew v0) ?_; simp only [Tk]
      iterate 9 (refine .z (fun wx hx _ hK => by first | (go_simp; exact Kz hK) | (obtain ⟨⟨p0, p1, p2⟩, q0, q1⟩ := HC wx (Aa hx HF.out); go_simp; exact Kz hK) | (have hc := n0 wx (HW wx (Aa hx HF.out)); go_simp; exact Kz hK)) ?_; simp only [Pt])
      refine .nil fun w5 l0 _ => ?_
      go_wp2; go_ret; exact ⟨⟨3, rfl, fun h => absurd h (by decide)⟩, HW _ (Aa l0 HF.out)⟩
    ·obtain rfl : i = n := by omega
     have z1 : decide ((i : Int) < (i : Int)) = false := by simp
     go_upto_region 12 with fail
     clear p0 p1 p2 q0 q1
     go_loopw [7] (fun f0 wr => ∃ t : Nat, t <= i ∧ f0 = nQ t ∧ (∀ u, u < t -> ∀ j, j < m -> 0 <= (R.getD u []).getD j 0 ∧ (R.getD u []).getD j 0 < (q : Int)) ∧ From W wr) (fun f0 _ => i - (intOf f0).toNat)
     case atStart => exact ⟨0, qe _, rfl, fun u hu => by omega, HF.out⟩
     case round =>
      obtain ⟨t, ht, rfl, l1, o0⟩ := hrel; obtain ⟨wt, rfl⟩ := xQ wr; have g1 := sK l1; have d0 := sK o0; clear l1 o0 HF; obtain ⟨⟨p0, p1, p2⟩, q0, q1⟩ := HC wt d0.out
      by_cases hti : t < i
      ·have i2 : (t : Int) < (i : Int) := by omega
       obtain ⟨lb, lo, Ai, ci, y0, r0, i0, e0⟩ := HR.at hti; subst y0; have o1 := w0 t hti; rw [o1] at i0 e0; have n0 : Hid (∀ wx, From w wx -> wx.cell? ⟨lb, lo + t, none⟩ = some (.slice Ai m ci)) := sK fun wx hx => (hx.cell (p := ⟨lb, lo + t, none⟩) r0).trans i0
       have j1 := sK fun (wx : WQ) (h9 : From w wx) => t0 wx Ai m ci _ (e0.below h9)
       clear i0 r0 e0 o1; obtain ⟨V2, z0⟩ : ∃ V2 : Prop, V2 = (∀ j, j < m -> 0 <= (R.getD t []).getD j 0 ∧ (R.getD t []).getD j 0 < (q : Int)) := ⟨_, rfl⟩
       have t1 := sK z0; rw [<- z0] at j1; clear z0; go_upto_region 14 with fail
       clear p0 p1 p2 q0 q1; have v0 : From wt wt := From.refl wt; refine wpT 7 60 [.v (.agg #[nQ F.p, nQ M, .slice A mL c]), .v (.pointer (some ⟨w.heap.size + 1, 1, none⟩)), .v (.slice (some ⟨lb, lo, none⟩) i d), .v (nQ t), .v (.pointer (some ⟨lb, lo + t, none⟩)), .v (.slice Ai m ci), .r (Vu V2) Vu.lasting] wt (by kernel_rfl) (by kernel_rfl) (by kernel_rfl) rfl (From.drew v0) ?_; simp only [Tk]
       iterate 6 (refine .z (fun wx hx _ hK => by first | (go_simp; exact Kz hK) | (obtain ⟨⟨p0, p1, p2⟩, q0, q1⟩ := HC wx (Aa hx d0.out); go_simp; exact Kz hK) | (have hc := n0 wx (HW wx (Aa hx d0.out)); go_simp; exact Kz hK)) ?_; simp only [Pt])
       refine .r (fun wx hx hd KK hK => ?_) (fun o2 => ?_)
       ·clear hd
        go_simp; refine (j1 wx (HW wx (Aa hx d0.out))).mono ?_; rintro e w' ⟨⟨k9, rfl, d2⟩, x1⟩; exact hK.out _ _ ⟨k9, rfl, d2⟩ x1
       simp only [Pt]; refine .nil fun w5 l0 hd => ?_
       obtain ⟨f1, rfl, x0⟩ := hd _ (.head _); clear hd
       by_cases hk : f1 = 0
       ·subst hk
        have r1 : Hid (∀ u, u < t + 1 -> ∀ j, j < m -> 0 <= (R.getD u []).getD j 0 ∧ (R.getD u []).getD j 0 < (q : Int)) := sK fun u hu => by
         by_cases e : u = t
         ·have := x0 rfl
          rw [t1.out] at this; rw [e]; exact this
         ·exact g1 u (by omega)
        clear x0; go_wp2; go_roundw
        case rel => exact ⟨t + 1, by omega, by go_num, r1.out, Aa l0 d0.out⟩
        case measure => simp [intOf] <;> omega
       ·have e2 : (f1 != 0) = true := by rw [bne_iff_ne]; exact hk
        clear x0; go_wp2; go_ret; exact ⟨⟨f1, rfl, fun h => absurd h hk⟩, HW _ (Aa l0 d0.out)⟩
      ·obtain rfl : t = i := by omega
       have i2 : decide ((t : Int) < (t : Int)) = false := by simp
       have u1 : Hid V := sK (by rw [HV.out]; exact ⟨hn, w0.out, g1.out⟩); go_wp2; go_ret; exact ⟨⟨0, rfl, fun _ => u1.out⟩, HW _ d0.out⟩
  ·have y1 : (256 : Int) < (n : Int) := by omega
   go_wp2; go_ret; exact ⟨⟨3, rfl, fun h => absurd h (by decide)⟩, HW _ m0.out⟩
 ·have e2 : (k0 != 0) = true := by rw [bne_iff_ne]; exact hk0
  go_wp2; go_ret; exact ⟨⟨k0, rfl, fun h => absurd h hk0⟩, HW _ m0.out⟩
def Oe (n : Nat) (R : LQ) (w : WQ) (e : Ending) (w' : WQ) : Prop := ∃ A c, e = .returned (.slice A n c) ∧ En w' w.heap.size A n c R ∧ Below w.heap.size w w'
theorem dZ (w : WQ) (B : OQ) (n d m : Nat) (R : LQ) (hR : RdM w B n d R) (hm : ∀ i, i < n -> (R.getD i []).length = m) (hm0 : 0 < m) (hm9 : m <= 1000) (hn9 : n <= 1000) : cQ 154 #[.slice B n d] w (Oe n R w) := by
 obtain ⟨i0, hi, k1, l1, m1⟩ := info_parts Bj
 obtain ⟨i1, hj, g1, h1, j1⟩ := info_parts Eg
 have n1 := hR.le63
 have e0 := sK hR.len
 have HR := sK hR
 have HM := sK hm
 clear hm hR
 unfold Oe
 go_enter Tryz.func154, Tryz.ntmps154
 go_upto_region 3 with fail
 go_loopw [3, 4] (fun ov d0 wr => ∃ (i : Nat) (AO : OQ) (co : Nat), i <= n ∧ d0 = nQ i ∧ ov = .slice AO i co ∧ En wr w.heap.size AO i co (R.take i) ∧ From w wr) (fun _ d0 _ => n - (intOf d0).toNat)
 case atStart => exact ⟨0, none, 0, qe _, rfl, rfl, by simpa using En.nil w w.heap.size, From.refl w⟩
 case round =>
  obtain ⟨i, AO, co, q1, rfl, rfl, hO, hF⟩ := hrel; obtain ⟨wo, rfl⟩ := xQ wr; have HO := sK hO; have HF := sK hF; clear hO hF
  by_cases hin : i < n
  ·have e1 : (i : Int) < (n : Int) := by omega
   obtain ⟨lb, lo, Ai, ci, c1, r1, n0, c0⟩ := (HR.below HF.out).at hin; subst c1; have b0 := HM i hin; have b1 : Hid (R.take (i + 1) = R.take i ++ [R.getD i []]) := sK (Dw R [] (by rw [e0.out]; exact hin)); rw [b0] at n0 c0; have x0 := sK c0; have f0 := sK b0; clear c0 b0; generalize R.getD i [] = r at *; have g0 : Hid (∀ b, (Value.slice AO i co).ownBlock = some b -> w.heap.size <= b ∧ b < wo.heap.size) := sK fun b e2 => by
    obtain ⟨s1, h8, _⟩ := HO.own; exact h8.lt b e2
   go_upto_region 4 with (first | (at_builtin; have _t := q0; refine Ha rfl (.tmp 11) (.tmp 18) 25 rfl i1 Tryz.underlying25 hj g1 h1 j1 w.heap.size AO i co _ rfl z0 w5.heap.size rfl _ _ _ w0 a1 t0 (by omega) (by have := HF.size; have := a0.size; simp; omega) ?_; intro A6 c6 w6 j0 m0) | (at_builtin; refine Er rfl (.tmp 12) (.tmp 16) 22 rfl i0 Tryz.underlying22 hi k1 l1 m1 _ rfl Ai m ci r rfl (x0.alloc _) (by omega) ?_; intro A5 c5 w5 q0 o0 l0; have ho := o0 hm0; obtain ⟨b5, rfl, d1, o1⟩ := ho.block hm0; have a0 : From wo w5 := (Ac wo _).trans (qf l0 (by simp)); have z0 := sK ((HO.below a0).below (Ac w5 (.cells #[.slice (sQ b5) m c5] 22))); have w0 : Hid ((w5.alloc (.cells #[.slice (sQ b5) m c5] 22)).cell? ⟨w5.heap.size, 0, none⟩ = some (.slice (sQ b5) r.length c5)) := sK (by rw [f0.out]; go_simp); have a1 : Hid (RdN (w5.alloc (.cells #[.slice (sQ b5) m c5] 22)) (sQ b5) r.length c5 r) := sK (by rw [f0.out]; exact (ho.alloc _).rd); have t0 : Hid (∀ b r0, (some (⟨b5, 0, none⟩ : Addr)) = some ⟨b, r0, none⟩ -> 0 < r.length -> (Value.slice AO i co).ownBlock ≠ some b) := sK (fun b r0 e _ e2 => by simp only [qc, qd] at e; have := (g0 b e2).2; simp at d1; omega)))
   have y0 := sK j0; have h0 : From w w6 := by
    refine qac ?_ m0 (by have := HF.size; have := a0.size; simp; omega) (fun k9 f1 => (g0 _ f1).1); exact Aa (Ac w5 _) (Aa a0 HF.out)
   have v0 := sK h0; clear j0 m0 h0 ho o0 q0 l0 a0 n0; go_wp2; go_roundw
   case rel => exact ⟨i + 1, A6, c6, by omega, by go_num, rfl, by rw [b1.out]; exact y0.out, v0.out⟩
   case measure => simp [intOf] <;> omega
  ·obtain rfl : i = n := by omega
   have e1 : decide ((i : Int) < (i : Int)) = false := by simp
   have HE : Hid (R.take i = R) := sK (qq (by rw [e0.out]; exact qb _)); go_wp2; go_ret; exact ⟨AO, co, rfl, by rw [<- HE.out]; exact HO.out, HF.out⟩
section
variable {w : WQ} {base g n c : Nat} {R : LQ}
theorem En.block {A : OQ} (h : En w base A n c R) (hn : 0 < n) : ∃ g, A = sQ g ∧ base <= g ∧ g < w.heap.size := by
 obtain ⟨vs, h1, _⟩ := h.own
 obtain ⟨g, b0, hv, hb, a0⟩ := h1.form hn
 simp only [qm, true_and] at hv
 exact ⟨g, hv.1, hb, a0⟩
end
structure Df (w : WQ) (base g n c : Nat) (vs : VQ) (R : LQ) : Prop where
 len : R.length = n
 own : w.ownsRow base 22 1 (.slice (sQ g) n c) n vs
 rows : ∀ i, i < n -> ∃ Ai ci, vs.getD i undef = .slice Ai (R.getD i []).length ci ∧ RdN w Ai (R.getD i []).length ci (R.getD i []) ∧ ∀ b a0, Ai = some ⟨b, a0, none⟩ -> 0 < (R.getD i []).length -> b ≠ g
section
variable {w w' : WQ} {base g n c : Nat} {vs : VQ} {R : LQ}
theorem En.toV (h : En w base (sQ g) n c R) : ∃ vs, Df w base g n c vs R := by
 obtain ⟨vs, h1, h2⟩ := h.own
 refine ⟨vs, h.len, h1, fun i hi => ?_⟩
 obtain ⟨Ai, ci, h3, h4, h5⟩ := h2 i hi
 exact ⟨Ai, ci, h3, h4, fun b a0 e h0 e2 => h5 b a0 e h0 (by simp [Value.ownBlock, e2])⟩
theorem Df.lenV (h : Df w base g n c vs R) : vs.length = n := by have := h.own.1; omega
theorem Df.toN (h : Df w base g n c vs R) : En w base (sQ g) n c R := ⟨h.len, vs, h.own, fun i hi => by
 obtain ⟨Ai, ci, h3, h4, h5⟩ := h.rows i hi
 exact ⟨Ai, ci, h3, h4, fun b a0 e h0 e2 => h5 b a0 e h0 (by simpa [Value.ownBlock] using e2.symm)⟩⟩
theorem Df.below (h : Df w base g n c vs R) (hb : Below w.heap.size w w') : Df w' base g n c vs R :=
 ⟨h.len, Ag h.own hb (qb _), fun i hi => by
  obtain ⟨Ai, ci, h3, h4, h5⟩ := h.rows i hi; exact ⟨Ai, ci, h3, h4.below hb, h5⟩⟩
theorem Df.free (h : Df w base g n c vs R) (i : Nat) : w.frozen? ⟨g, i, none⟩ = false := h.own.frozenAt i
theorem Df.cell (h : Df w base g n c vs R) {i : Nat} (hi : i < n) : w.cell? ⟨g, i, none⟩ = some (vs.getD i undef) := by
 have c0 := h.lenV
 rw [h.own.cellAt i (by omega)]
 simp [qa, c0, hi]
theorem Df.row (h : Df w base g n c vs R) {i m : Nat} (hi : i < n) (hm : (R.getD i []).length = m) (hm0 : 0 < m) : ∃ b o d, vs.getD i undef = .slice (some ⟨b, o, none⟩) m d ∧ w.cell? ⟨g, i, none⟩ = some (.slice (some ⟨b, o, none⟩) m d) ∧ RdN w (some ⟨b, o, none⟩) m d (R.getD i []) ∧ b ≠ g ∧ m <= d ∧ d <= maxLen := by
 obtain ⟨Ai, ci, h3, h4, h5⟩ := h.rows i hi
 rw [hm] at h3 h4 h5
 obtain ⟨b, o, rfl, _, _⟩ := h4.cells hm0
 exact ⟨b, o, ci, h3, by rw [h.cell hi, h3], h4, h5 b o rfl hm0, h4.cap, h4.max⟩
theorem Df.put (h : Df w base g n c vs R) {i : Nat} (hi : i < n) {Ai : OQ} {m ci : Nat} {l : NQ} (hr : RdN w Ai m ci l) (ha : ∀ b a0, Ai = some ⟨b, a0, none⟩ -> b ≠ g) :
  Df (w.setCell ⟨g, i, none⟩ (.slice Ai m ci)) base g n c (vs.set i (.slice Ai m ci)) (R.set i l) := by
 have c0 := h.lenV
 have hg := Ad w g i (.slice Ai m ci)
 have hl := hr.len
 refine ⟨by rw [qai]; exact h.len, (World.ownsRow.stored h.own i _).1, fun j hj => ?_⟩
 by_cases e : j = i
 ·subst e
  have e1 : (R.set j l).getD j [] = l := by
   rw [qa, qcm (by rw [h.len]; exact hi)]; rfl
  rw [e1, hl]; refine ⟨Ai, ci, ?_, hr.kept hg fun b a0 e h0 => ha b a0 e, fun b a0 e h0 => ha b a0 e⟩; rw [qa, qcm (by omega)]; rfl
 ·obtain ⟨Aj, cj, h3, h4, h5⟩ := h.rows j hj
  have e1 : (R.set i l).getD j [] = R.getD j [] := by
   rw [qa, qa, qbf (fun h => e h.symm)]
  rw [e1]; refine ⟨Aj, cj, ?_, h4.kept hg fun b a0 e9 h0 e2 => h5 b a0 e9 h0 e2, h5⟩; rw [qa, qbf (fun h => e h.symm), <- qa]; exact h3
theorem Df.kept (h : Df w base g n c vs R) {r : Option Nat} (hg : w.grownBy w' r) (h1 : r ≠ some g) (h2 : ∀ j b, j < n -> (vs.getD j undef).ownBlock = some b -> r ≠ some b) : Df w' base g n c vs R := by
 refine ⟨h.len, h.own.kept hg (.inr fun e => h1 e.symm), fun j hj => ?_⟩
 obtain ⟨Aj, cj, h3, h4, h5⟩ := h.rows j hj
 refine ⟨Aj, cj, h3, ?_, h5⟩
 cases r with
 | none => exact h4.below (qac (bR) hg (qb _) (fun k hk => by cases hk))
 | some x => exact h4.kept hg fun b a0 e _ e2 => h2 j b hj (by rw [h3, e]; rfl) (by rw [e2])
theorem Off.putA {X : NQ} {n i b o m d : Nat} {vs : VQ} (h : Off vs n X) (hl : vs.length = n) (hi : i < n) (hb : b ∉ X) : Off (vs.set i (.slice (some ⟨b, o, none⟩) m d)) n X := fun j b' hj b0 => by
 by_cases e : j = i
 ·subst e
  rw [qa, qcm (by omega)] at b0; have : b = b' := by simpa [Value.ownBlock] using b0
  rw [<- this]; exact hb
 ·rw [qa, qbf (fun h => e h.symm), <- qa] at b0
  exact h j b' hj b0
theorem Df.blkLt (h : Df w base g n c vs R) {m : Nat} (hm : ∀ i, i < n -> (R.getD i []).length = m) (hm0 : 0 < m) {j b : Nat} (hj : j < n) (e : (vs.getD j undef).ownBlock = some b) : b < w.heap.size := by
 obtain ⟨b1, o, d, h1, _, h3, _⟩ := h.row hj (hm j hj) hm0
 rw [h1] at e
 have e1 : b1 = b := by simpa [Value.ownBlock] using e
 obtain ⟨b2, o2, e2, h5, _⟩ := h3.cells hm0
 simp only [qc, qd, and_true] at e2
 omega
end
end Go.Proofs.YtoalkldfhkabnaaGreatDoor
