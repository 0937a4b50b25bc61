/- Part of WholeTraces. -/
import Derived.RangeFuncNested
import Derived.RangeFuncBound
import Derived.RangeFuncCalls
import Derived.RangeFuncLeaves
import Derived.RangeFuncWrites
import Derived.RangeFuncBox
import Derived.Shelf.Abstract
import Derived.Shelf.RegionOpen
import Derived.WalkKit
import Derived.OwnWalkIn
import Derived.TacticsInMore
import Derived.LoopNIn
import Derived.LoopIn
import Derived.Maps.AppendAt
import Derived.Test.YtoalkldfhkabnaaGreatDoorW00
import Derived.Test.YtoalkldfhkabnaaGreatDoorW08
import Derived.Test.YtoalkldfhkabnaaGreatDoorW16
set_option linter.all false
set_option maxRecDepth 10000
set_option maxHeartbeats 16000000
namespace Go.Proofs.YtoalkldfhkabnaaGreatDoor
open Go.RowKit Fq
theorem Lh (F : Fld) (c : Nat) (st : LQ × NQ) : st.2.length <= (Bg F c st).2.length ∧ (Bg F c st).2.length <= st.2.length + 1 := by
 unfold Bg
 simp only
 split <;> simp
theorem iS (F : Fld) (R : LQ) : ∀ k, (elim F R k).2.length <= k
 | 0 => qb _
 | k + 1 => by
  have h1 := Lh F k (elim F R k); have h2 := iS F R k; show (Bg F k (elim F R k)).2.length <= k + 1; omega
theorem Pw (F : Fld) (R : LQ) {c : Nat} (h : (elim F R (c + 1)).2.length <= c) : ∀ j, (elim F R (c + 1 + j)).2.length <= c + j
 | 0 => h
 | j + 1 => by
  have h1 := Lh F (c + 1 + j) (elim F R (c + 1 + j)); have h2 := Pw F R h j; show (Bg F (c + 1 + j) (elim F R (c + 1 + j))).2.length <= c + (j + 1); omega
def Pm (base : Nat) (ok : Bool) (w : WQ) (e : Ending) (w' : WQ) : Prop :=
 (∃ A k c, e = .returned (.tuple #[.slice A k c, .bool ok])) ∧ Below base w w'
set_option maxRecDepth 20000 in
theorem eY (w0 w : WQ) (b : Nat) (F : FD) (hGF : GFat w0 b F) (h0 : Below w0.heap.size w0 w) (base g n : Nat) (hb0 : w0.heap.size <= base) (vs : VQ) (R0 : LQ) (hG : Az w base g n n vs R0) (hM : Mat F.fld (n + 1) R0) (hn9 : n <= 8) :
  cQ 280 #[pQ b, .slice (sQ g) n n] w (Pm base (decide ((elim F.fld R0 n).2.length = n)) w) := by
 obtain ⟨i0, q6, g7, h7, i7⟩ := info_parts Bj
 have d0 := hGF.ok.fldOk
 have c3 := hGF.ok
 have hq := c3.q256
 have q5 : Hid (∀ c, c <= n + 1 -> EInv F.fld (n + 1) R0 c (elim F.fld R0 c).1 (elim F.fld R0 c).2) := sK fun c hc => Fs d0 hM c hc
 have x2 := hG.head
 have j7 := sK hGF
 have H0 := sK h0
 have u7 : base <= w.heap.size := by omega
 have e6 : R0.length = n := hG.len
 have n1 : Hid (∀ wx, Below base w wx -> GFat wx b F) := sK fun wx hx => hGF.keep (h0.trans (qf hx hb0)) (qb _)
 have x5 : Hid (∀ c, c < n -> (elim F.fld R0 (c + 1)).2.length <= c -> decide ((elim F.fld R0 n).2.length = n) = false) := sK fun c hc h => by
  have h1 := Pw F.fld R0 h (n - (c + 1)); rw [show c + 1 + (n - (c + 1)) = n by omega] at h1; rw [decide_eq_false_iff_not]; omega
 have c2 : Hid (base <= g ∧ g < w.heap.size) := sK ⟨x2.1, x2.2.1⟩
 have p3 := sK hG
 have k7 := sK hM
 unfold Pm
 clear hG x2 hM hGF h0
 go_enter Tryz.func280, Tryz.ntmps280
 go_wp2
 go_loopw [20] (fun cv wr => ∃ (c : Nat) (vs : VQ), c <= n ∧ cv = nQ c ∧ (elim F.fld R0 c).2.length = c ∧ Az wr base g n n vs (elim F.fld R0 c).1 ∧ Below base w wr) (fun cv _ => n - (intOf cv).toNat)
 case atStart => exact ⟨0, vs, qe _, rfl, rfl, p3.out, bR⟩
 case round =>
  clear p3 vs; obtain ⟨c, vs, hc, rfl, hL, hG, hB⟩ := hrel; obtain ⟨wo, rfl⟩ := xQ wr; have hI := q5 c (by omega); have r0 : Mat F.fld (n + 1) (elim F.fld R0 c).1 := hI.mat; have g0 : (elim F.fld R0 c).1.length = n := by rw [hI.len]; exact e6
  have HG := sK hG; have HB := sK hB; have HL := sK hL; have c8 : g < wo.heap.size := hG.head.2.1; clear hI hG hB hL
  by_cases hcn : c < n
  ·have m1 : Hid (elim F.fld R0 (c + 1) = Bg F.fld c (elim F.fld R0 c)) := sK rfl
   obtain ⟨R, hR⟩ := xQ ((elim F.fld R0 c).1); obtain ⟨P, hP⟩ := xQ ((elim F.fld R0 c).2); have e9 : elim F.fld R0 c = (R, P) := by rw [hR, hP]
   rw [e9] at m1 HL; rw [<- hR] at HG g0 r0; have q0 := sK r0; have j6 : (c : Int) < (n : Int) := by omega
   clear hR hP e9 r0; have c1 : Hid (∀ (wx : WQ) (n3 : VQ) (S : LQ), Az wx base g n n n3 S -> Mat F.fld (n + 1) S -> S.length = n -> ∀ i, i < n -> ∃ b1 d1, wx.cell? ⟨g, i, none⟩ = some (.slice (sQ b1) (n + 1) d1) ∧ (∀ j, j < n + 1 -> wx.cell? ⟨b1, j, none⟩ = some (nQ (ent S i j))) ∧ n + 1 <= d1 ∧ d1 <= maxLen ∧ n3.getD i undef = .slice (sQ b1) (n + 1) d1) := sK fun wx n3 S y1 s6 n8 i p6 => by
    have f0 : (S.getD i []).length = n + 1 := Mat.len s6 (by omega); obtain ⟨b1, d1, h1, h2, h3, h4, h5⟩ := y1.row p6 (by omega); rw [f0] at h1 h2 h5; exact ⟨b1, d1, h2, fun j hj => h5.cell hj, h5.le.1, h5.le.2, h1⟩
   go_wp2
   go_loopw [8] (fun pv wr => ∃ k, c <= k ∧ k <= n ∧ pv = nQ k ∧ (∀ i, c <= i -> i < k -> ent R i c = 0) ∧ wr = wo) (fun pv _ => n - (intOf pv).toNat)
   case atStart => exact ⟨c, qb _, by omega, rfl, fun i h1 h2 => by omega, rfl⟩
   case round =>
    obtain ⟨k, l4, q4, rfl, s4, e7⟩ := hrel; subst e7; have m2 := sK s4; clear s4
    by_cases hkn9 : k = n
    ·have j8 : ¬ (k : Int) < (n : Int) := by omega
     have i8 : decide ((k : Int) < (n : Int)) = false := by simp; omega
     have r6 : ((k : Int) == (n : Int)) = true := by simp [hkn9]
     have n2 : Hid (decide ((elim F.fld R0 n).2.length = n) = false) := sK (x5 c hcn (by
      rw [m1.out]; unfold Bg; simp only; have hL : P.length = c := HL.out; rw [hL, Jj g0 l4 q4 m2 (fun h => by omega)]; rw [if_neg (by omega)]; exact qcq hL))
     clear hkn9; go_wp2; go_ret2; rw [n2.out]; exact ⟨⟨none, 0, 0, rfl⟩, HB.out⟩
    ·have k8 : (k : Int) < (n : Int) := by omega
     obtain ⟨b1, d1, v0, a0, f3, x0, b0⟩ := c1 _ vs R HG q0 g0 k (by omega); have m0 := a0 c (by omega); unfold maxLen at x0; have v7 : (c : Int) < (n : Int) + 1 := by omega
     by_cases hkz0 : ent R k c = 0
     ·have t4 : ∀ i, c <= i -> i < k + 1 -> ent R i c = 0 := fun i h1 h2 => by
       by_cases h3 : i = k
       ·rw [h3]; exact hkz0
       ·exact m2 i h1 (by omega)
      have s5 := sK t4; clear t4; rw [hkz0] at m0; clear a0 hkz0; go_wp2; go_roundw
      case rel => exact ⟨k + 1, by omega, by omega, by go_num, s5.out, trivial⟩
      case measure => simp [intOf]; omega
     ·have o4 : fpiv R c (R.length - c) c = k := Jj g0 l4 q4 m2 fun _ => hkz0
      have y7 : ((ent R k c : Int) == 0) = false := by simp; exact hkz0
      have r6 : ((k : Int) == (n : Int)) = false := by simp; omega
      have j2 : Hid (Bg F.fld c (R, P) = (clr F.fld (Cx F.fld (Cf R c k) c c) c c n, P ++ [c])) := sK (by
       unfold Bg; simp only; have hL : P.length = c := HL.out; rw [hL, o4, g0, if_pos (by omega)])
      have r3 := sK hkz0; have r4 : k < n := by omega
      clear o4 hkz0 hkn9 a0; go_upto_region 10 with fail
      obtain ⟨b2, d2, t6, u6, v6, v4, e3⟩ := c1 _ vs R HG q0 g0 c hcn; unfold maxLen at v4; have l6 := HG.slotFree c; have m6 := HG.slotFree k; have j3 := fun (wx : WQ) (h9 : From _ wx) => (HG.below h9).swap hcn r4
      rw [b0, e3] at j3; have y5 := sK j3; have q1 := sK b0; have n7 := sK e3; obtain ⟨X, hX⟩ : ∃ X, (wr.setCell ⟨g, c, none⟩ (.slice (sQ b1) (n + 1) d1)).cell? ⟨g, k, none⟩ = some X := by
       have h8 := (HG.grid.outer.stored c (.slice (sQ b1) (n + 1) d1)).1.cellAt k (by omega); rw [qh (by rw [qai, HG.grid.lenV]; exact r4)] at h8; exact ⟨_, h8⟩
      clear j3 b0 e3 u6 m0; go_region; obtain ⟨W, hW⟩ := xQ (((wr.setCell ⟨g, c, none⟩ (.slice (sQ b1) (n + 1) d1)).setCell ⟨g, k, none⟩ (.slice (sQ b2) (n + 1) d2)).drew); have l0 : Az W base g n n (Hj vs c k) (Cf R c k) := by
       rw [hW]; exact (y5 wr (From.refl wr)).below (Ae (bR) 1)
      have r1 : Below base w W := by
       rw [hW]; exact Ae ((HB.setCell (p := ⟨g, c, none⟩) c2.out.1 _).setCell (p := ⟨g, k, none⟩) c2.out.1 _) 1
      rw [<- hW]; clear hW hX l6 m6 t6 v0 f3 x0 v6 v4; have hS : Mat F.fld (n + 1) (Cf R c k) := Hr q0 (by omega) (by omega); have s2 : (Cf R c k).length = n := by rw [Eh]; exact g0
      have u2 : ent (Cf R c k) c c ≠ 0 := by
       unfold ent; rw [Gl (by omega) (by omega)]
       by_cases hkL : c = k
       ·rw [if_pos hkL]
        have := r3.out; unfold ent at this
        rwa [<- hkL] at this
       ·rw [if_neg hkL, if_pos rfl]; exact r3.out
      obtain ⟨S, r2⟩ := xQ (Cf R c k); rw [<- r2] at l0 hS s2 u2 j2; generalize Hj vs c k = vs9 at *; have v2 : ent S c c < F.q := hS.lt d0 c c; obtain ⟨b3, d3, v0, a0, f3, x0, b0⟩ := c1 W vs9 S l0 hS s2 c hcn; have m0 := a0 c (by omega); unfold maxLen at x0; have r5 := sK hS; have q3 := sK l0; have o3 := sK r1; have f0 : (S.getD c []).length = n + 1 := Mat.len hS (by omega); have w2 : g < W.heap.size := l0.head.2.1; have f4 : RdN W (sQ b3) (n + 1) d3 (S.getD c []) := by
       obtain ⟨b4, d4, h1, _, _, _, h5⟩ := l0.row hcn (by omega); rw [b0, f0] at h1; simp only [qm, qc, qd, and_true, true_and] at h1; obtain ⟨rfl, rfl⟩ := h1; rw [f0] at h5; exact h5.rd
      have l2 : Hid (∀ wx, From W wx -> cQ 177 #[pQ b, iv (ent S c c)] wx (Bs (.tuple #[iv (F.inv (ent S c c)), iv 0]) wx)) := sK fun wx h9 => Pc wx b F ((n1 W r1).below h9) _ v2 u2
      have g1 : Hid (∀ wx, From W wx -> cQ 59 #[pQ b, iv (F.inv (ent S c c)), .slice (sQ b3) (n + 1) d3] wx (RetN (n + 1) (Bb F.fld (F.inv (ent S c c)) (S.getD c [])) wx)) := sK fun wx h9 => Iv wx b F ((n1 W r1).below h9) _ (d0.invL _ v2) _ _ _ _ (f4.below h9) (Mat.els hS (by omega)) (by omega)
      have HT : Hid (Cx F.fld S c c = S.set c (Bb F.fld (F.inv (ent S c c)) (S.getD c []))) := sK rfl; have HC : Hid (∀ wx, From W wx -> wx.cell? ⟨g, c, none⟩ = some (.slice (sQ b3) (n + 1) d3) ∧ wx.frozen? ⟨g, c, none⟩ = false) := sK fun wx h9 => ⟨(h9.cell (p := ⟨g, c, none⟩) w2).trans v0, (h9.frozen (p := ⟨g, c, none⟩) w2).trans (l0.slotFree c)⟩
      have m7 := sK r2; have w7 : (c : Int) < (n : Int) + 1 := by omega
      clear hS l0 r1 f0 f4 a0 b0 r2 u2 v2; obtain ⟨en, n4⟩ := xQ (ent S c c); obtain ⟨L, e4⟩ := xQ (Bb F.fld (F.inv (ent S c c)) (S.getD c [])); rw [<- e4] at g1 HT; rw [<- n4] at l2 g1 m0; generalize F.inv en = z at *; unfold RetN at g1; unfold iv at l2 g1; clear n4 e4; go_upto_region 12 with (go_at_call 177; refine (l2 W (From.refl W)).mono ?_; rintro e w4 ⟨rfl, j4, rfl⟩)
      have o2 : From W (W.drewN j4) := Ae (From.refl W) j4; generalize W.drewN j4 = W4 at *; have z0 := sK o2; obtain ⟨x1, n6⟩ := HC W4 o2; clear o2 v0 m0; go_upto_region 13 with (go_at_call 59; refine (g1 W4 z0.out).mono ?_; rintro e w5 ⟨A5, c5, rfl, a3, i4⟩; have k2 := sK (Aa i4 z0.out); obtain ⟨i6, o6⟩ := HC w5 k2.out; obtain ⟨b5, rfl, o7, p7⟩ := a3.block (by omega); clear x1 n6)
      have r7 : base <= W.heap.size := by have := o3.size; omega
      have a8 := w2; have t1 := (q3.below k2.out).put hcn (a3.mono (show base <= W4.heap.size by have := z0.size; omega)) ⟨by have := z0.size; omega, fun j hj _ e => by have := q3.blkLt hj e; have := z0.size; omega⟩; rw [<- HT.out] at t1; obtain ⟨W5, u1⟩ : ∃ x, x = w5.setCell ⟨g, c, none⟩ (.slice (sQ b5) (n + 1) c5) := ⟨_, rfl⟩
      rw [<- u1] at t1; have z3 : Below base w W5 := by rw [u1]; exact (o3.trans (qf k2 (by omega))).setCell (p := ⟨g, c, none⟩) c2.out.1 _
      rw [<- u1]; clear u1 i6 o6 i4 a3; have g4 : Mat F.fld (n + 1) (Cx F.fld S c c) := Hw d0 r5 (by omega); have f6 : (Cx F.fld S c c).length = n := by rw [Fi]; exact s2
      generalize Cx F.fld S c c = T at *; generalize vs9.set c (.slice (sQ b5) (n + 1) c5) = vsT at *; have i1 := sK g4; have c0 := sK f6; have m5 := sK t1; have i5 := sK z3; clear g4 t1 z3; go_wp2
      go_loopw [80] (fun o0 wr => ∃ i, i <= n ∧ o0 = nQ i ∧ Az wr base g n n vsT (clr F.fld T c c i) ∧ Below base w wr) (fun o0 _ => n - (intOf o0).toNat)
      case atStart => exact ⟨0, qe _, rfl, m5.out, i5.out⟩
      case round =>
       obtain ⟨i, j1, rfl, hG, hB⟩ := hrel; have j0 := sK hG; have k1 := sK hB; clear hG hB
       by_cases hin9 : i = n
       ·subst hin9
        have p4 : decide ((i : Int) < (i : Int)) = false := by simp
        go_wp2; go_roundw
        case rel =>
         refine ⟨c + 1, vsT, by omega, by go_num, ?_, ?_, k1.out⟩
         ·rw [m1.out, j2.out]; simp; exact HL.out
         ·rw [m1.out, j2.out]; exact j0.out
        case measure => simp [intOf]; omega
       ·have p4 : (i : Int) < (n : Int) := by omega
        have s1 : Mat F.fld (n + 1) (clr F.fld T c c i) := Lg d0 i1 (by rw [c0.out]; exact hcn) i (by rw [c0.out]; exact j1); have a4 : (clr F.fld T c c i).length = n := by rw [Ea]; exact c0.out
        obtain ⟨b6, d6, v0, a0, f3, x0, b0⟩ := c1 _ vsT _ j0 s1 a4 i (by omega); have m0 := a0 c (by omega); unfold maxLen at x0; have m3 : ent (clr F.fld T c c i) i c < F.q := s1.lt d0 i c; have m4 : clr F.fld T c c (i + 1) = if i = c then clr F.fld T c c i else (clr F.fld T c c i).set i (addRow F.fld ((clr F.fld T c c i).getD i []) (F.fld.neg (ent (clr F.fld T c c i) i c)) (T.getD c [])) := rfl; have i2 := sK m4; have x7 : (c : Int) < (n : Int) + 1 := by omega
        clear m4; obtain ⟨x, l3⟩ := xQ (ent (clr F.fld T c c i) i c); rw [<- l3] at m0 m3; have x3 := sK l3; have l7 := sK a0; have y0 := sK s1; clear l3 a0 s1
        by_cases hic : i = c
        ·have s7 : ((i : Int) != (c : Int)) = false := by simp [hic]
         have a1 : Hid (clr F.fld T c c (i + 1) = clr F.fld T c c i) := sK (by rw [i2.out, if_pos hic]); clear hic; go_wp2; go_roundw
         case rel => exact ⟨i + 1, by omega, by go_num, by rw [a1.out]; exact j0.out, k1.out⟩
         case measure => simp [intOf]; omega
        ·have t7 : ((i : Int) != (c : Int)) = true := by simp; omega
         by_cases hx0 : x = 0
         ·have f7 : ((x : Int) != 0) = false := by simp [hx0]
          have a1 : Hid (clr F.fld T c c (i + 1) = clr F.fld T c c i) := sK (by
           have f0 : i < (clr F.fld T c c i).length := by omega
           rw [i2.out, if_neg hic, <- x3.out, hx0, Hf d0 (y0.len f0) (i1.len (by rw [c0.out]; exact hcn)) (y0.rowLt f0) (i1.rowLt (by rw [c0.out]; exact hcn)), Dx])
          clear hic hx0; go_wp2; go_roundw
          case rel => exact ⟨i + 1, by omega, by go_num, by rw [a1.out]; exact j0.out, k1.out⟩
          case measure => simp [intOf]; omega
         ·have f7 : ((x : Int) != 0) = true := by simp; exact hx0
          have x4 : (clr F.fld T c c i).getD c [] = T.getD c [] := by rw [Fo _ (by rw [c0.out]; exact j1), if_neg (by omega)]
          obtain ⟨b7, d7, x6, y6, y4, z6, i3⟩ := c1 _ vsT _ j0 y0 a4 c hcn; unfold maxLen at z6; have q7 : b6 ≠ b7 := fun e => by
           have h1 := (j0.grid.apart i (by omega) b6 (by rw [b0]; rfl)).2 c hcn (by rw [i3, e]; rfl); omega
          have a1 : Hid (clr F.fld T c c (i + 1) = (clr F.fld T c c i).set i (addRow F.fld ((clr F.fld T c c i).getD i []) (F.neg x) (T.getD c []))) := sK (by
           rw [i2.out, if_neg hic, <- x3.out]; rfl)
          have q1 := sK b0; have z5 := sK i3; have p5 := sK hic; have t0 : ((clr F.fld T c c i).getD i []).length = n + 1 := Mat.len y0 (by omega); have a2 : (T.getD c []).length = n + 1 := Mat.len i1 (by rw [c0.out]; exact hcn); have z1 : (addRow F.fld ((clr F.fld T c c i).getD i []) (F.neg x) (T.getD c [])).length = n + 1 := Bv t0 a2; have a6 : Hid (∀ j, j < n + 1 -> ((clr F.fld T c c i).getD i []).getD j 0 < F.q) := sK fun j hj => y0.rowLt (by omega) _ (Ap (by omega) _)
          have v3 : Hid (∀ j, j < n + 1 -> (T.getD c []).getD j 0 < F.q) := sK fun j hj => i1.rowLt (by rw [c0.out]; exact hcn) _ (Ap (by omega) _)
          have t3 : Hid (∀ j, j < n + 1 -> (addRow F.fld ((clr F.fld T c c i).getD i []) (F.neg x) (T.getD c [])).getD j 0 = F.add (((clr F.fld T c c i).getD i []).getD j 0) (F.neg (F.mul x ((T.getD c []).getD j 0)))) := sK fun j hj => by
           rw [Co t0 a2 hj]; have := d0.mulneg (x := x) (y := (T.getD c []).getD j 0) m3 (v3 j hj); exact congrArg _ this
          have z4 : (clr F.fld T c c i).set i (mixL (addRow F.fld ((clr F.fld T c c i).getD i []) (F.neg x) (T.getD c [])) ((clr F.fld T c c i).getD i []) 0) = clr F.fld T c c i := by rw [Cz, Dx]
          have y2 := j0.out; rw [<- z4] at y2; have n5 := sK y2; have o5 : Hid ((clr F.fld T c c i).getD c [] = T.getD c []) := sK x4; clear y6 i3 b0 hic hx0 z4 y2 x4; generalize hVe : (clr F.fld T c c i).getD i [] = V at *; generalize hUe : T.getD c [] = U at *; clear hVe hUe; generalize hNe : addRow F.fld V (F.neg x) U = NX at *; clear hNe; go_wp2
          go_loopw [102] (fun jv wr => ∃ j, j <= n + 1 ∧ jv = nQ j ∧ Az wr base g n n vsT ((clr F.fld T c c i).set i (mixL NX V j)) ∧ Below base w wr) (fun jv _ => n + 1 - (intOf jv).toNat)
          case atStart => exact ⟨0, qe _, rfl, n5.out, k1.out⟩
          case round =>
           clear v0 x6; obtain ⟨j, hj, rfl, hG, hB⟩ := hrel; obtain ⟨we, rfl⟩ := xQ wr; have l1 := sK hB; have o1 := sK hG; clear hG hB
           by_cases hjn : j = n + 1
           ·have e8 : decide ((j : Int) < (n : Int) + 1) = false := by simp; omega
            have f8 : ¬ (j : Int) < (n : Int) + 1 := by omega
            have p2 := o1.out; rw [hjn, Dp z1 t0, <- a1.out] at p2; have l5 := sK p2; clear p2 hjn; go_wp2; go_roundw
            case rel => exact ⟨i + 1, by omega, by go_num, l5.out, l1.out⟩
            case measure => simp [intOf]; omega
           ·have g8 : (j : Int) < (n : Int) + 1 := by omega
            have e0 : j < n + 1 := by omega
            have n0 : ((clr F.fld T c c i).set i (mixL NX V j)).getD i [] = mixL NX V j := Cm _ _ _ (by omega); have g3 : ((clr F.fld T c c i).set i (mixL NX V j)).getD c [] = U := by rw [Fc _ _ _ p5.out]; exact o5.out
            have z2 : (mixL NX V j).length = n + 1 := iT z1 t0 (by omega); have g2 : Hid (∀ wx, From we wx -> wx.cell? ⟨g, i, none⟩ = some (.slice (sQ b6) (n + 1) d6) ∧ wx.cell? ⟨b6, j, none⟩ = some (.int .i64 ((V.getD j 0 : Nat) : Int)) ∧ wx.frozen? ⟨b6, j, none⟩ = false ∧ wx.cell? ⟨b7, j, none⟩ = some (.int .i64 ((U.getD j 0 : Nat) : Int))) := sK fun wx h9 => by
             have y1 := o1.below h9; obtain ⟨b8, d8, e1, e2, _, _, e5⟩ := y1.row (show i < n by omega) (by rw [n0, z2]; omega); rw [n0, z2] at e1 e2 e5; rw [q1.out] at e1; simp only [qm, qc, qd, and_true, true_and] at e1; obtain ⟨rfl, rfl⟩ := e1; obtain ⟨b9, d9, f1, f2, _, _, f5⟩ := y1.row hcn (by rw [g3, a2]; omega); rw [g3, a2] at f1 f2 f5; rw [z5.out] at f1; simp only [qm, qc, qd, and_true, true_and] at f1; obtain ⟨rfl, rfl⟩ := f1; refine ⟨e2, ?_, e5.free j, f5.cell e0⟩; rw [e5.cell e0, Ep z1 t0 (qb j) e0]
            have s3 : Hid (∀ wx, From we wx -> cQ 108 #[pQ b, iv x, iv (U.getD j 0)] wx (Bs (iv (F.mul x (U.getD j 0))) wx)) := sK fun wx h9 => Fy wx b F ((n1 _ l1.out).below h9) _ _ m3 (v3 j e0)
            have u3 : Hid (∀ wx, From we wx -> cQ 330 #[pQ b, iv (V.getD j 0), iv (F.mul x (U.getD j 0))] wx (Bs (iv (NX.getD j 0)) wx)) := sK fun wx h9 => by
             rw [t3 j e0]; exact Yb wx b F ((n1 _ l1.out).below h9) _ _ (a6 j e0) (c3.mul_lt _ _)
            have a5 : NX.getD j 0 < 1000000 := by
             rw [t3 j e0]; have := c3.add_lt (V.getD j 0) (F.neg (F.mul x (U.getD j 0))); omega
            have n2 : Hid (∀ wx, From we wx -> Az (wx.setCell ⟨b6, j, none⟩ (.int .i64 ((NX.getD j 0 : Nat) : Int))) base g n n vsT ((clr F.fld T c c i).set i (mixL NX V (j + 1)))) := sK fun wx h9 => by
             have h8 := (o1.below h9).store (show i < n by omega) q1 j a5; rw [n0, List.set_set, Cu z1 t0 e0] at h8; exact h8
            have g6 : base <= b6 ∧ b6 < we.heap.size := o1.blkLt (show i < n by omega) (by rw [q1.out]; rfl); have c7 : base <= we.heap.size := by omega
            obtain ⟨v1, w1, k4, x1⟩ := g2 we (From.refl we); unfold iv at s3 u3; clear n0 g3 z2 hjn a5; generalize V.getD j 0 = v at *; generalize U.getD j 0 = u at *; generalize F.mul x u = m at *; generalize NX.getD j 0 = s at *; go_upto_region 21 with fail
            clear v1 w1 k4 x1; have c6 : From we we := From.refl we; refine wpT 19 148 [.v (.slice (sQ g) n n), .v (nQ i), .v (.pointer (some ⟨g, i, none⟩)), .v (.slice (sQ b6) (n + 1) d6), .v (nQ j), .v (pQ b), .v (.slice (sQ g) n n), .v (nQ i), .v (.pointer (some ⟨g, i, none⟩)), .v (.slice (sQ b6) (n + 1) d6), .v (nQ j), .v (.pointer (some ⟨b6, j, none⟩)), .v (nQ v), .v (pQ b), .v (nQ x), .v (nQ u), .v (nQ m), .v (nQ s), .v (.pointer (some ⟨b6, j, none⟩))] we (by kernel_rfl) (by kernel_rfl) (by kernel_rfl) rfl (From.drew c6) ?_; simp only [Tk]
            iterate 19 (refine .z (fun wx hx _ hK => by first | (go_simp; exact Kz hK) | (obtain ⟨v1, w1, _, _⟩ := g2 wx hx; go_simp; exact Kz hK) | (go_simp; refine (s3 wx hx).mono ?_; rintro e w' ⟨rfl, j9, rfl⟩; exact hK.out _ _ rfl (Ae (bR) _)) | (go_simp; refine (u3 wx hx).mono ?_; rintro e w' ⟨rfl, j9, rfl⟩; exact hK.out _ _ rfl (Ae (bR) _))) ?_; simp only [Pt])
            refine .nil fun w6 k3 _ => ?_
            obtain ⟨v1, w1, k4, x1⟩ := g2 w6 k3; go_wp2; go_roundw
            case rel => exact ⟨j + 1, by omega, by go_num, n2 w6 k3, (l1.trans (qf k3 c7)).setCell (p := ⟨b6, j, none⟩) g6.1 _⟩
            case measure => simp [intOf]; omega
  ·obtain rfl : c = n := by omega
   have v5 : Hid (decide ((elim F.fld R0 c).2.length = c) = true) := sK (by rw [decide_eq_true_iff]; exact HL.out); have j6 : decide ((c : Int) < (c : Int)) = false := by simp
   obtain ⟨R, hR⟩ := xQ ((elim F.fld R0 c).1); rw [<- hR] at HG g0 r0; have q0 := sK r0; clear hR r0; go_wp2_with (at_make; refine Bd rfl _ _ _ rfl i0 Tryz.underlying22 q6 g7 h7 i7 _ _ c rfl rfl (by omega) ?_; intro w3 u4 t2 y4); have c4 := HG.below t2; have y3 : Below base w w3 := HB.trans (qf t2 (by have := HB.size; omega)); have k5 := sK c4; have g5 := sK y3; have u5 := sK u4; have h6 : base <= wo.heap.size := by have := HB.size; omega
   clear c4 y3 u4 t2 y4
   go_loopw [133] (fun o0 wr => ∃ i l, i <= c ∧ o0 = nQ i ∧ OwnN wr wo.heap.size (sQ wo.heap.size) c c l ∧ Az wr base g c c vs R ∧ Below base w wr) (fun o0 _ => c - (intOf o0).toNat)
   case atStart => exact ⟨0, _, qe _, rfl, u5.out, k5.out, g5.out⟩
   case round =>
    obtain ⟨i, l, hi, rfl, hO, hG, hB⟩ := hrel
    by_cases j1 : i < c
    ·have p4 : (i : Int) < (c : Int) := by omega
     have n0 : (R.getD i []).length = c + 1 := Mat.len q0 (by omega); obtain ⟨b1, d1, h1, h2, h3, h4, h5⟩ := hG.row j1 (by omega); rw [n0] at h2 h5; have k6 := h5.le; unfold maxLen at k6; have hv := h5.cell (k := c) (by omega); have a7 : (R.getD i []).getD c 0 < 1000000 := by
      have := q0.rowLt (show i < R.length by omega) ((R.getD i []).getD c 0) (Ap (by omega) _); have h9 : F.fld.q = F.q := rfl; omega
     have l8 := hO.cell j1; have m8 := hO.free i; have t5 := sK (hO.set i a7); have j5 : Hid (Az (wr.setCell ⟨wo.heap.size, i, none⟩ (.int .i64 (((R.getD i []).getD c 0 : Nat) : Int))) base g c c vs R) := sK (hG.kept (Ad wr wo.heap.size i _) (fun e => by simp at e; omega) (fun j b hj e1 e => by
      have := (HG.blkLt hj e1).2; simp at e; omega))
     have d5 : Hid (Below base w (wr.setCell ⟨wo.heap.size, i, none⟩ (.int .i64 (((R.getD i []).getD c 0 : Nat) : Int)))) := sK (hB.setCell (p := ⟨wo.heap.size, i, none⟩) h6 _); have v1 : (c : Int) < (c : Int) + 1 := by omega
     have w1 : (c : Int) < (d1 : Int) := by omega
     clear hO hG hB h5 n0 h1; generalize (R.getD i []).getD c 0 = y at *; go_wp2; go_roundw
     case rel => exact ⟨i + 1, _, by omega, by go_num, t5.out, j5.out, d5.out⟩
     case measure => simp [intOf]; omega
    ·obtain rfl : i = c := by omega
     go_wp2; go_ret2; rw [v5.out]; exact ⟨⟨_, _, _, rfl⟩, hB⟩
def basB (F : FD) (l : NQ) (d : Nat) : Bool := decide ((elim F.fld (sysL F l d (Bm F 0 d)) ((F.m + 1) / d)).2.length = (F.m + 1) / d)
theorem dX (F : FD) (x d : Nat) : basB F (Bm F x d) d = Hm F F.fld x d := by
 unfold basB Hm
 rw [Bool.eq_iff_iff, decide_eq_true_iff, beq_iff_eq]
theorem dU (w : WQ) (b : Nat) (F : FD) (hG : GFat w b F) (d : Nat) (hd0 : 0 < d) (hd : (F.m + 1) % d = 0) (A : OQ) (c : Nat) (l : NQ) (hl : RdN w A ((F.m + 1) / d) c l) (hle : Els F l) :
  cQ 169 #[pQ b, .slice A ((F.m + 1) / d) c, nQ d] w (Ah (.int .i64 (if basB F l d then 0 else 9)) w) := by
 have x0 := hG.bd
 have d0 := hG.ok
 have a1 := d0.q2
 have q0 : d <= 8 := qs (qaz (by omega) (Vq hd)) (by omega)
 have r0 : (F.m + 1) / d <= 8 := qs (qaf _ _) (by omega)
 have v0 := sK (Ey w b F hG d hd0 hd)
 have w0 := sK fun (wx : WQ) (h9 : From w wx) => Lm wx b F (hG.below h9) 0 (by omega) d hd0 q0
 have m0 : Els F (Bm F 0 d) := Lo d0 (by omega)
 have l0 := sK fun (wx : WQ) (h9 : From w wx) (B : OQ) (cB : Nat) (hr : RdN wx B ((F.m + 1) / d) cB (Bm F 0 d)) => Zy wx b F (hG.below h9) A B _ c cB l (Bm F 0 d) (hl.below h9) hle r0 d hd0 q0 rfl hr
 have hM := Uf (d := d) d0 (show ∀ x ∈ l, x < F.q from hle) m0
 rw [hl.len] at hM
 have e0 := sK fun (wx wy : WQ) (h9 : From w wx) (vs : VQ) (hg : Az wy wx.heap.size wx.heap.size ((F.m + 1) / d) ((F.m + 1) / d) vs (sysL F l d (Bm F 0 d))) (hb : Below wx.heap.size wx wy) => eY wx wy b F (hG.below h9) hb wx.heap.size wx.heap.size _ (qb _) vs _ hg hM r0
 have n0 : (decide ((elim F.fld (sysL F l d (Bm F 0 d)) ((F.m + 1) / d)).2.length = (F.m + 1) / d)) = basB F l d := rfl
 rw [n0] at e0
 have z0 := hl.cap
 have y0 := hl.max
 unfold maxLen at y0
 unfold RetG RetN Pm at *
 unfold iv at *
 clear hG x0 d0 m0 hl hle hM n0
 generalize sysL F l d (Bm F 0 d) = SY at *
 generalize Bm F 0 d = E0 at *
 generalize basB F l d = ok at *
 generalize (F.m + 1) / d = n at *
 go_enter Tryz.func169, Tryz.ntmps169
 go_upto_region 3 with (go_at_call 106; refine v0.mono ?_; rintro e w2 ⟨rfl, b0⟩)
 have i0 := sK b0
 clear b0
 go_upto_region 4 with (go_at_call 114; refine (w0 w2 i0.out).mono ?_; rintro e w3 ⟨B, cB, rfl, t0, o0⟩)
 have a0 := sK (Aa o0 i0.out)
 have j0 := sK t0.rd
 clear t0 o0
 cases ok with
 | true =>
  go_wp2_with (first | (go_at_call 281; refine (l0 w3 a0 B cB j0.out).mono ?_; rintro e w4 ⟨h0, rfl, g0, c0⟩) | (go_at_call 280; refine (e0 w3 w4 a0 h0 g0 c0).mono ?_; rintro e w5 ⟨⟨A5, k5, c5, rfl⟩, f0⟩)); go_ret; exact ⟨rfl, a0.trans ((c0.trans f0).mono a0.size)⟩
 | false =>
  go_wp2_with (first | (go_at_call 281; refine (l0 w3 a0 B cB j0.out).mono ?_; rintro e w4 ⟨h0, rfl, g0, c0⟩) | (go_at_call 280; refine (e0 w3 w4 a0 h0 g0 c0).mono ?_; rintro e w5 ⟨⟨A5, k5, c5, rfl⟩, f0⟩)); go_ret; exact ⟨rfl, a0.trans ((c0.trans f0).mono a0.size)⟩
theorem Ue (w : WQ) (b : Nat) (F : FD) (hG : GFat w b F) (d : Nat) (hd0 : 0 < d) (hd : (F.m + 1) % d = 0) (A : OQ) (c : Nat) (l : NQ) (hl : RdN w A ((F.m + 1) / d) c l) (hle : Els F l) :
  cQ 113 #[pQ b, .slice A ((F.m + 1) / d) c, nQ d] w (Ah (.bool (basB F l d)) w) := by
 have HB := sK (dU w b F hG d hd0 hd A c l hl hle)
 clear hG hl hle hd
 generalize basB F l d = ok at *
 generalize (F.m + 1) / d = n at *
 go_enter Tryz.func113, Tryz.ntmps113
 cases ok with
 | true =>
  go_wp2_with (go_at_call 169; refine HB.mono ?_; rintro e w2 ⟨rfl, b0⟩); go_ret; exact ⟨rfl, b0⟩
 | false =>
  go_wp2_with (go_at_call 169; refine HB.mono ?_; rintro e w2 ⟨rfl, b0⟩); go_ret; exact ⟨rfl, b0⟩
def tlen (l : NQ) : Nat -> Nat
 | 0 => 0
 | n + 1 => if l.getD n 0 = 0 then tlen l n else n + 1
theorem Tg (l : NQ) : ∀ n, tlen l n <= n
 | 0 => qb _
 | n + 1 => by
  have := Tg l n; simp only [tlen]; split <;> omega
theorem nO (w : WQ) (A : OQ) (n c : Nat) (l : NQ) (hr : RdN w A n c l) : cQ 279 #[.slice A n c] w (Ba (.slice A (tlen l n) c) w) := by
 have e0 := hr.le63
 have c0 := hr.cap
 have HR := sK hr
 clear hr
 go_enter Tryz.func279, Tryz.ntmps279
 go_wp2
 go_loopw [0] (fun pv wr => ∃ k, k <= n ∧ pv = .slice A k c ∧ tlen l k = tlen l n ∧ w = wr) (fun pv _ => match pv with | .slice _ k _ => k | _ => 0)
 case atStart => exact ⟨n, qb _, rfl, rfl, rfl⟩
 case round =>
  obtain ⟨k, hk, rfl, ht, hw⟩ := hrel; have HT := sK ht; have HW := sK hw; have a0 := HR.out; rw [hw] at a0; clear ht hw
  rcases Xq k with hk0 | hk0
  ·have h1 : decide ((0 : Int) < (k : Int)) = false := by simp; omega
   have h2 : ¬ (0 : Int) < (k : Int) := by omega
   have HK := sK hk0; clear a0 hk0; go_wp2; go_ret; exact ⟨by rw [<- HT.out]; have := Tg l k; rw [HK.out] at this ⊢; rfl, HW.out⟩
  ·obtain ⟨j, rfl⟩ : ∃ j, k = j + 1 := ⟨k - 1, by omega⟩
   obtain ⟨ab, ao, hA, _, b0⟩ := a0.at (show j < n by omega); subst hA; have h1 : (0 : Int) < ((j + 1 : Nat) : Int) := by omega
   have d0 : ((j + 1 : Nat) : Int) - 1 = (j : Int) := by omega
   by_cases hz : l.getD j 0 = 0
   ·have HN : Hid (tlen l j = tlen l n) := sK (by rw [<- HT.out, tlen, if_pos hz])
    rw [hz] at b0; generalize hJ : ((j + 1 : Nat) : Int) = J at *; clear hz a0; go_wp2; go_roundw
    case rel => exact ⟨j, by omega, by go_num, HN.out, HW.out⟩
    case measure => simp
   ·have HN : Hid (j + 1 = tlen l n) := sK (by rw [<- HT.out, tlen, if_neg hz])
    have hb : (((l.getD j 0 : Nat) : Int) == 0) = false := by simp only [beq_eq_false_iff_ne]; omega
    generalize l.getD j 0 = y at *; clear a0; go_wp2; go_ret; exact ⟨by rw [<- HN.out]; rfl, HW.out⟩
def Yg (l : NQ) (w : WQ) (e : Ending) (w' : WQ) : Prop :=
 ∃ A c, e = .returned (.slice A (tlen l l.length) c) ∧ RdN w' A (tlen l l.length) c (l.take (tlen l l.length)) ∧ Below w.heap.size w w'
theorem Za (w : WQ) (b : Nat) (F : FD) (hG : GFat w b F) (A : OQ) (n c : Nat) (l : NQ) (hr : RdN w A n c l) (hl : Els F l) (hn : n <= 1000) : cQ 165 #[pQ b, .slice A n c] w (Yg l w) := by
 obtain ⟨i0, q0, t0, v0, w0⟩ := info_parts Bj
 have hq := hG.bd
 have n0 := sK fun (wx : WQ) (h9 : From w wx) (x : Nat) (hx : x < F.q) => mH wx b F (hG.below h9) x hx
 have m0 : Hid (∀ i, i < n -> l.getD i 0 < F.q) := sK fun i hi => hl _ (Ap (by rw [hr.len]; exact hi) _)
 have HR := sK hr
 have y0 := hr.cap
 have f0 := sK hr.len
 unfold Yg
 rw [hr.len]
 unfold iv at *
 clear hG hr hl
 go_enter Tryz.func165, Tryz.ntmps165
 go_upto_region 2 with (at_make; refine Bd rfl _ _ _ rfl i0 Tryz.underlying22 q0 t0 v0 w0 _ _ n rfl rfl (by omega) ?_; intro w3 h0 g0 a1)
 have o0 : Hid (OwnN w3 w.heap.size (sQ w.heap.size) n n (mixL l (List.replicate n 0) 0)) := sK (by rw [Cz]; exact h0)
 have l0 := sK g0
 clear h0 g0
 go_wp2
 go_loopw [13] (fun e0 wr => ∃ i, i <= n ∧ e0 = nQ i ∧ OwnN wr w.heap.size (sQ w.heap.size) n n (mixL l (List.replicate n 0) i) ∧ From w wr) (fun e0 _ => n - (intOf e0).toNat)
 case atStart => exact ⟨0, qe _, rfl, o0.out, l0.out⟩
 case round =>
  obtain ⟨i, hi, rfl, ho, hb⟩ := hrel; have c0 := sK ho; have b0 := sK hb; clear ho hb
  by_cases hin : i < n
  ·have z0 : (i : Int) < (n : Int) := by omega
   obtain ⟨ab, ao, hA, _, x0⟩ := (HR.below b0.out).at hin; subst hA; have hx := m0 i hin; have r0 : l.getD i 0 < 1000000 := by omega
   have hc := c0.cell hin; have hf := c0.free i; have a0 := c0.set i r0; rw [Cu f0 (by simp) hin] at a0; have d0 := sK a0; have j0 := sK (b0.setCell (p := ⟨w.heap.size, i, none⟩) (qb _) (.int .i64 ((l.getD i 0 : Nat) : Int))); have H8 := sK (n0 wr b0 _ hx); clear a0; generalize l.getD i 0 = y at *; go_wp2_with (go_at_call 181; refine H8.mono ?_; rintro e w5 ⟨rfl, rfl⟩); go_roundw
   case rel => exact ⟨i + 1, by omega, by go_num, d0.out, j0.out⟩
   case measure => simp [intOf]; omega
  ·obtain rfl : i = n := by omega
   have a0 := c0.out; rw [Dp f0 (by simp)] at a0; have d0 := sK a0; have H8 := sK (nO wr _ _ _ _ a0.rd); clear a0; go_wp2_with (go_at_call 279; refine H8.mono ?_; rintro e w5 ⟨rfl, rfl⟩); go_ret; exact ⟨_, _, rfl, d0.rd.head (Tg l i), b0.out⟩
def horn (F : FD) (l : NQ) (n x : Nat) : Nat -> Nat
 | 0 => 0
 | k + 1 => F.add (F.mul (horn F l n x k) x) (l.getD (n - 1 - k) 0)
theorem nS (w : WQ) (b : Nat) (F : FD) (hG : GFat w b F) (A : OQ) (n c : Nat) (l : NQ) (hr : RdN w A n c l) (hl : Els F l) (x : Nat) (hx : x < F.q) : cQ 166 #[pQ b, .slice A n c, iv x] w (Ah (iv (horn F l n x n)) w) := by
 have d0 := hG.ok.fldOk
 have b0 := hG.ok
 have hq := hG.bd
 have l0 : Hid (∀ k, k <= n -> horn F l n x k < F.q) := sK fun k hk => by
  induction k with
  | zero => show 0 < F.q; omega
  | succ k ih => exact d0.addL _ _ (b0.mul_lt _ _) (hl _ (Ap (by rw [hr.len]; omega) _))
 have n0 : Hid (∀ (wx : WQ), From w wx -> ∀ k, k <= n -> cQ 108 #[pQ b, iv (horn F l n x k), iv x] wx (Bs (iv (F.mul (horn F l n x k) x)) wx)) := sK fun wx h9 k hk => Fy wx b F (hG.below h9) _ x (l0 k hk) hx
 have i0 : Hid (∀ (wx : WQ), From w wx -> ∀ k, k < n -> cQ 115 #[pQ b, iv (F.mul (horn F l n x k) x), iv (l.getD (n - 1 - k) 0)] wx (Bs (iv (horn F l n x (k + 1))) wx)) := sK fun wx h9 k hk => Hh wx b F (hG.below h9) _ _ (b0.mul_lt _ _) (hl _ (Ap (by rw [hr.len]; omega) _))
 have HR := sK hr
 have x0 := hr.le63
 unfold iv at *
 clear hG hr hl d0 b0
 go_enter Tryz.func166, Tryz.ntmps166
 go_wp2
 go_loopw [7, 8] (fun yv c0 wr => ∃ k, k <= n ∧ c0 = .int .i64 ((n : Int) - 1 - (k : Int)) ∧ yv = .int .i64 ((horn F l n x k : Nat) : Int) ∧ From w wr) (fun _ c0 _ => (intOf c0 + 1).toNat)
 case atStart => exact ⟨0, qe _, by simp, rfl, From.refl _⟩
 case round =>
  obtain ⟨k, hk, rfl, rfl, hb⟩ := hrel; have HB := sK hb; clear hb
  by_cases hkn : k < n
  ·obtain ⟨j, hj⟩ : ∃ j : Nat, j = n - 1 - k := ⟨_, rfl⟩
   have a0 : (n : Int) - 1 - (k : Int) = (j : Int) := by omega
   have e0 : j < n := by omega
   have v0 : (0 : Int) <= (j : Int) := by omega
   have w0 : (j : Int) < (n : Int) := by omega
   have H1 := n0.out; have H2 := i0.out; have m0 : Hid (∀ wx, From wr wx -> cQ 108 #[pQ b, .int .i64 ((horn F l n x k : Nat) : Int), nQ x] wx (Bs (.int .i64 ((F.mul (horn F l n x k) x : Nat) : Int)) wx)) := sK fun wx h9 => H1 wx (Aa h9 HB.out) k hk
   have g0 : Hid (∀ wx, From wr wx -> cQ 115 #[pQ b, .int .i64 ((F.mul (horn F l n x k) x : Nat) : Int), .int .i64 ((l.getD j 0 : Nat) : Int)] wx (Bs (.int .i64 ((horn F l n x (k + 1) : Nat) : Int)) wx)) := sK fun wx h9 => by rw [hj]; exact H2 wx (Aa h9 HB.out) k hkn
   obtain ⟨ab, ao, hA, _, q0⟩ := (HR.below HB.out).at e0; subst hA; have h0 : Hid (∀ wx, From wr wx -> wx.cell? ⟨ab, ao + j, none⟩ = some (.int .i64 ((l.getD j 0 : Nat) : Int))) := sK fun wx h9 => (HR.below (Aa h9 HB.out)).cellAt e0
   have t0 := HR.cap; have HJ := sK hj; clear H1 H2 q0 hj; rw [a0]; have j0 := sK a0; clear a0; generalize hy : F.mul (horn F l n x k) x = y at *; generalize hz : l.getD j 0 = z at *; generalize hu : horn F l n x (k + 1) = u at *; generalize hv : horn F l n x k = v at *; have HU := sK hu; clear hy hz hu hv; have o0 : From wr wr := From.refl wr; go_upto_region 5 with fail
   refine wpT 11 27 [.v (pQ b), .v (pQ b), .v (nQ v), .v (nQ x), .v (nQ y), .v (.slice (some ⟨ab, ao, none⟩) n c), .v (nQ j), .v (.pointer (some ⟨ab, ao + j, none⟩)), .v (nQ z), .v (nQ u), .v (nQ u)] wr (by kernel_rfl) (by kernel_rfl) (by kernel_rfl) rfl (From.drew o0) ?_; simp only [Tk]
   iterate 11 (refine .z (fun wx hx _ hK => by first | (go_simp; exact Kz hK) | (go_simp; refine (m0 wx hx).mono ?_; rintro e w' ⟨rfl, j9, rfl⟩; exact hK.out _ _ rfl (Ae (bR) _)) | (have hc := h0 wx hx; go_simp; exact Kz hK) | (go_simp; refine (g0 wx hx).mono ?_; rintro e w' ⟨rfl, j9, rfl⟩; exact hK.out _ _ rfl (Ae (bR) _))) ?_; simp only [Pt])
   refine .nil fun w5 r0 _ => ?_
   go_wp2; go_roundw
   case rel =>
    refine ⟨k + 1, by omega, ?_, by rw [HU.out], Aa r0 HB.out⟩; have := j0.out; go_num
   case measure => simp [intOf]
  ·obtain rfl : k = n := by omega
   have f0 : (k : Int) - 1 - (k : Int) = -1 := by omega
   rw [f0]; clear f0; go_wp2; go_ret; exact ⟨rfl, HB.out⟩
section
open Go.RowKit Go.Shelf Fq
attribute [local go_sem] Oper.semAt_some
def Cy (q : Nat) : Nat -> List (Fin q)
 | 0 => []
 | k + 1 => if h : k < q then Cy q k ++ [⟨k, h⟩] else Cy q k
theorem Pe (q : Nat) : ∀ k, k <= q -> (Cy q k).length = k
 | 0, _ => rfl
 | k + 1, h => by rw [Cy, dif_pos (by omega), Hq, Pe q k (by omega)]; rfl
theorem Qa (q : Nat) : ∀ k, k <= q -> (Cy q k).map (fun x => x.1) = List.range k
 | 0, _ => rfl
 | k + 1, h => by rw [Cy, dif_pos (by omega), qam, Qa q k (by omega), qaj]; rfl
set_option maxRecDepth 100000 in
theorem St (F : Fence) (n : Nat) (h6 : F.fn 168) (hro : F.round = none) (hn : 1 <= n) (l bx b n₀ q : Nat) (hq : q <= 256) (J Jx : List (Fin q) -> WQ -> Prop)
  (hY : ∀ pre x W, J pre W -> pre.length < q -> YieldAt F (n - 1) Tryz.prog l #[.int .i64 ((x.1 : Nat) : Int)] W fun e W' =>
   (e = .returned (.bool true) ∧ J (pre ++ [x]) W' ∧ Below n₀ W W') ∨ (e = .returned (.bool false) ∧ Jx (pre ++ [x]) W'))
  (W : WQ) (hbx : W.cell? ⟨bx, 0, none⟩ = some (pQ b)) (hqc : W.cell? ⟨b, 3, none⟩ = some (nQ q)) (h0 : J [] W) :
  CallsIn F n Tryz.prog 168 #[.func (.yield l) #[] #[], pQ bx] W fun e W' => (∃ v, e = .returned v) ∧
   ((∃ ys, ys = Cy q q ∧ J ys W') ∨ (∃ pre, (∃ k, k < q ∧ pre = Cy q (k + 1)) ∧ Jx pre W')) := by
 refine callsIn_of_wp Tryz.func168 rfl h6 ?_ hro
 simp only [Tryz.ntmps168, List.size_toArray, qan, List.length_nil, Nat.reduceAdd, Nat.reduceSub, qcw, qcx, List.push_toArray, qdc, qbp, qba]
 gi_wp2
 gi_loopw [8] (fun p wr => ∃ k, k <= q ∧ p = nQ k ∧ J (Cy q k) wr) (fun p _ => q - (intOf p).toNat)
 case atStart => exact ⟨0, qe _, rfl, h0⟩
 case round =>
  obtain ⟨k, hk, rfl, hJ⟩ := hrel
  by_cases hkq : k < q
  ·have c0 : Cy q (k + 1) = Cy q k ++ [⟨k, hkq⟩] := by rw [Cy, dif_pos hkq]
   have g0 : (k : Int) < (q : Int) := by omega
   obtain ⟨fn, i0, d0, e0, hy, hR⟩ := hY (Cy q k) ⟨k, hkq⟩ wr hJ (by rw [Pe q k hk]; exact hkq); dsimp only at hy
   gi_wp2
   refine hR.mono ?_; rintro e W3 (⟨rfl, a0, f0⟩ | ⟨rfl, b0⟩)
   ·rw [<- c0] at a0
    gi_wp2
    go_roundw
    case rel => exact ⟨k + 1, by omega, by go_num, a0⟩
    case measure => simp [intOf]; omega
   ·rw [<- c0] at b0
    gi_wp2
    refine bodyPost_ret (results_none rfl _ _ _) rfl ?_; exact ⟨⟨_, rfl⟩, .inr ⟨Cy q (k + 1), ⟨k, hkq, rfl⟩, b0⟩⟩
  ·obtain rfl : k = q := by omega
   gi_wp2
   go_end0; exact ⟨⟨_, rfl⟩, .inl ⟨_, rfl, hJ⟩⟩
theorem Nh (F : Fence) (n : Nat) (h5 : F.fn 112) (hro : F.round = none) (b : Nat) (w : WQ) :
  CallsIn F n Tryz.prog 112 #[pQ b] w fun e w' => e = .returned (.func (.func 168) #[] #[pQ w.heap.size]) ∧ w' = w.alloc (.cells #[pQ b] 56) := by
 refine callsIn_of_wp Tryz.func112 rfl h5 ?_ hro
 simp only [Tryz.ntmps112, List.size_toArray, qan, List.length_nil, Nat.reduceAdd, Nat.reduceSub, qcw, qcx, List.push_toArray, qdc, qbp, qba]
 gi_wp2
 go_ret
 exact ⟨rfl, rfl⟩
theorem Iz (F : Fence) (n : Nat) (h6 : F.fn 168) (hro : F.round = none) (hn : 1 <= n) (bx b n₀ q : Nat) (hq : q <= 256) (w : WQ) (hbx : bx < w.heap.size) (hb : b < w.heap.size) (hc : w.cell? ⟨bx, 0, none⟩ = some (pQ b)) (hqc : w.cell? ⟨b, 3, none⟩ = some (nQ q)) :
  SeqStopsK F n Tryz.prog 168 #[pQ bx] (fun x : Fin q => #[Value.int .i64 ((x.1 : Nat) : Int)]) (Below n₀) (fun ys => ys = Cy q q) (fun pre => ∃ k, k < q ∧ pre = Cy q (k + 1)) q w := fun l J Jx W hW _ _ hY h0 =>
 St F n h6 hro hn l bx b n₀ q hq J Jx hY W ((hW.cell (p := ⟨bx, 0, none⟩) hbx).trans hc) ((hW.cell (p := ⟨b, 3, none⟩) hb).trans hqc) h0
end
end Go.Proofs.YtoalkldfhkabnaaGreatDoor
