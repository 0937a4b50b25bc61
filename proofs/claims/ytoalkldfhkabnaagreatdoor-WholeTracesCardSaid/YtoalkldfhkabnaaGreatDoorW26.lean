/- Part of WholeTraces. -/
import Derived.Test.YtoalkldfhkabnaaGreatDoorW00
import Derived.Test.YtoalkldfhkabnaaGreatDoorW10
import Derived.Test.YtoalkldfhkabnaaGreatDoorW25
set_option linter.all false
set_option maxRecDepth 10000
set_option maxHeartbeats 16000000
namespace Go.Proofs.YtoalkldfhkabnaaGreatDoor
open Go.RowKit Fq
def Mr (n : Nat) (st : LQ × NQ) (w : WQ) (e : Ending) (w' : WQ) : Prop :=
 ∃ A c A2 c2, e = .returned (.tuple #[.slice A n c, .slice A2 st.2.length c2]) ∧ RdM w' A n c st.1 ∧ RdN w' A2 st.2.length c2 st.2 ∧ Below w.heap.size w w'
set_option maxRecDepth 20000 in
theorem gV (w : WQ) (F : FD) (hF : F.Ok) (A : OQ) (c : Nat) (hmod : RdN w A (modL F).length c (modL F)) (B : OQ) (n d m : Nat) (R : LQ) (hR : RdM w B n d R) (hM : Mat F.fld m R) (hm0 : 0 < m) (hm9 : m <= 1000) (hn0 : 0 < n) (hn9 : n <= 1000) :
  cQ 100 #[Ax F A c, .slice B n d, nQ m] w (Mr n (elim F.fld R m) w) := by
 obtain ⟨i0, k8, x8, y8, z8⟩ := info_parts Bj
 have d0 := hF.fldOk
 have hq := hF.q256
 have j3 := hR.len
 have i7 : Hid (∀ c, c <= m -> EInv F.fld m R c (elim F.fld R c).1 (elim F.fld R c).2) := sK fun c hc => Fs d0 hM c hc
 have j4 := sK fun (wx : WQ) (h9 : From w wx) => dZ wx B n d m R (hR.below h9) (fun i hi => (hM _ (Ap (by rw [j3]; exact hi) [])).1) hm0 hm9 hn9
 have n4 := sK fun (wx : WQ) (h9 : From w wx) (x : Nat) (hx : x < F.q) (w0 : x ≠ 0) => iC wx F hF A c (hmod.below h9) x hx w0
 have r4 := sK fun (wx : WQ) (x : Nat) (hx : x < F.q) => jQ wx F hF A (modL F).length c x hx
 have x2 := sK fun (wx : WQ) (h9 : From w wx) (x : Nat) (hx : x < F.q) (B1 : OQ) (d1 : Nat) (l : NQ) (hr : RdN wx B1 m d1 l) (hl : Els F l) => Xp wx F hF A c (hmod.below h9) x hx B1 m d1 l hr hl hm9
 have m2 := sK fun (wx : WQ) (h9 : From w wx) (x : Nat) (hx : x < F.q) (B1 D1 : OQ) (d1 e1 : Nat) (v u : NQ) (hr : RdN wx B1 m d1 v) (hu : RdN wx D1 m e1 u) (hv : Els F v) (u8 : Els F u) => aS wx F hF A c (hmod.below h9) x hx B1 D1 m d1 e1 v u hr hu hv u8 hm9
 have e1 : Ax F A c = .agg #[nQ F.p, .int .i64 ((F.m + 1 : Nat) : Int), .slice A (modL F).length c] := rfl
 unfold fldV at r4
 unfold Oe at j4
 unfold RetN at x2 m2
 rw [e1] at n4 x2 m2 ⊢
 clear e1 hmod
 generalize (modL F).length = mL at *
 generalize F.m + 1 = M at *
 unfold Mr
 go_enter Tryz.func100, Tryz.ntmps100
 go_upto_region 1 with fail
 obtain ⟨W, hW, w7, n3, b0⟩ := mk1 w #[nQ F.p, nQ M, .slice A mL c] 24
 rw [hW]
 clear hW
 have HC : Hid (∀ wx, From W wx -> wx.cell? ⟨w.heap.size, 0, none⟩ = some (nQ F.p) ∧ wx.cell? ⟨w.heap.size, 1, none⟩ = some (nQ M) ∧ wx.cell? ⟨w.heap.size, 2, none⟩ = some (.slice A mL c)) := sK fun wx hx => ⟨(b0.below hx).c0, (b0.below hx).c1, (b0.below hx).c2⟩
 have t7 := sK n3
 have HW : Hid (∀ wx, From W wx -> From w wx) := sK fun wx hx => n3.trans (qf hx (by omega))
 have bE : w.heap.size < W.heap.size := by omega
 clear b0 n3 w7
 go_upto_region 2 with (go_at_call 154; refine (j4 W t7.out).mono ?_; rintro e w2 ⟨A2, ca, rfl, i3, v5⟩)
 obtain ⟨g, rfl, a2, e8⟩ := i3.block hn0
 have s4 := sK i3
 have c7 := sK v5
 clear i3 v5
 have j9 : n <= 9223372036854775807 := by omega
 go_upto_region 5 with fail
 obtain ⟨z6, y6⟩ := s4.toV
 have x4 := sK y6
 clear y6 s4
 have v7 : R.length = n := j3
 clear j3
 go_loopw [9, 10, 11] (fun pv av cv wr => ∃ (k : Nat) (AP : OQ) (pc : Nat) (vs : VQ), k <= m ∧ cv = nQ k ∧ av = .int .i64 ((elim F.fld R k).2.length : Int) ∧ pv = .slice AP (elim F.fld R k).2.length pc ∧ Df wr W.heap.size g n ca vs (elim F.fld R k).1 ∧ OwnN wr W.heap.size AP (elim F.fld R k).2.length pc (elim F.fld R k).2 ∧ (∀ x, AP = sQ x -> x ≠ g ∧ Off vs n [x]) ∧ From W wr ∧ g < wr.heap.size) (fun _ _ cv _ => m - (intOf cv).toNat)
 case atStart => exact ⟨0, none, 0, z6, qe _, rfl, rfl, rfl, x4.out, OwnN.nil w2 W.heap.size, (fun x hx => absurd hx (by simp)), c7.out, e8⟩
 case round =>
  clear x4 z6; obtain ⟨cx, AP, pc, vs, hc, rfl, rfl, rfl, hO, hP, n5, a5, k6⟩ := hrel; obtain ⟨wo, rfl⟩ := xQ wr; have hI := i7 cx hc; have y1 : Mat F.fld m (elim F.fld R cx).1 := hI.mat; have e0 : (elim F.fld R cx).1.length = n := by rw [hI.len]; exact v7
  have i2 := hI.ple; rw [e0] at i2; have p5 : n <= (elim F.fld R cx).2.length -> elim F.fld R m = elim F.fld R cx := fun h9 => by
   have := Mm F.fld R cx (by rw [e0]; exact h9) (m - cx)
   rwa [show cx + (m - cx) = m by omega] at this
  have k1 := sK p5; have s2 : Hid (elim F.fld R (cx + 1) = Bg F.fld cx (elim F.fld R cx)) := sK rfl; have t2 : Hid (cx = m -> elim F.fld R m = elim F.fld R cx) := sK fun h => by rw [h]
  obtain ⟨S, P, z1⟩ : ∃ S P, elim F.fld R cx = (S, P) := ⟨_, _, rfl⟩
  have d9 := sK z1; rw [z1] at hO hP y1 e0 i2 k1 s2 t2; simp only [z1]; simp only at hO hP y1 e0 i2 k1; clear z1 p5 hI; obtain ⟨L, hL⟩ := xQ P.length; have HL := sK hL; rw [<- hL] at hP i2 k1 ⊢; clear hL; have HO := sK hO; have HP := sK hP; have v1 := sK n5; have HF := sK a5; have u1 := sK y1; have u7 := hP.le; unfold maxLen at u7; clear hO hP n5 a5 y1; have t1 : Hid (elim F.fld R m = (S, P) -> ∀ e, e = .returned (.tuple #[.slice (sQ g) n ca, .slice AP L pc]) -> Mr n (elim F.fld R m) w e wo) := sK fun h9 e he => by
   rw [h9]; refine ⟨_, _, AP, pc, ?_, HO.toN.rd, ?_, HW _ HF.out⟩
   ·rw [he, HL.out]
   ·have := HP.rd
    rwa [HL.out] at this
  unfold Mr at t1
  by_cases hcc : cx = m
  ·have x5 : decide ((cx : Int) < (m : Int)) = false := by simp; omega
   have q9 : ¬ (cx : Int) < (m : Int) := by omega
   have HE := sK (t2 hcc); clear hcc; go_wp2; go_ret2; exact t1 HE _ rfl
  ·by_cases hpn : n <= L
   ·have x5 : (cx : Int) < (m : Int) := by omega
    have x9 : decide ((L : Int) < (n : Int)) = false := by simp; omega
    have y9 : ¬ (L : Int) < (n : Int) := by omega
    have HE := sK (k1 hpn); clear hcc hpn; go_wp2; go_ret2; exact t1 HE _ rfl
   ·have y5 : cx < m := by omega
    have x5 : (cx : Int) < (m : Int) := by omega
    have a0 : L < n := by omega
    have z9 : (L : Int) < (n : Int) := by omega
    have q0 : Hid (∀ (wx : WQ) (i4 : VQ) (S' : LQ), Df wx W.heap.size g n ca i4 S' -> Mat F.fld m S' -> S'.length = n -> ∀ i, i < n -> ∃ b1 o1 d1, wx.cell? ⟨g, i, none⟩ = some (.slice (some ⟨b1, o1, none⟩) m d1) ∧ wx.cell? ⟨b1, o1 + cx, none⟩ = some (nQ (ent S' i cx)) ∧ m <= d1 ∧ d1 <= maxLen ∧ i4.getD i undef = .slice (some ⟨b1, o1, none⟩) m d1 ∧ RdN wx (some ⟨b1, o1, none⟩) m d1 (S'.getD i []) ∧ b1 ≠ g) := sK fun wx i4 S' f8 o8 aC i j8 => by
     obtain ⟨b1, o1, d1, h1, h2, h3, h4, h5, h6⟩ := f8.row j8 (Mat.len o8 (by omega)) hm0; exact ⟨b1, o1, d1, h2, h3.cellAt y5, h5, h6, h1, h3, h4⟩
    clear t1 hcc hpn k1 t2; go_wp2
    go_loopw [12] (fun kv wr => ∃ k, L <= k ∧ k <= n ∧ kv = nQ k ∧ (∀ i, L <= i -> i < k -> ent S i cx = 0) ∧ wr = wo) (fun kv _ => n - (intOf kv).toNat)
    case atStart => exact ⟨L, qb _, by omega, rfl, fun i h1 h2 => by omega, rfl⟩
    case round =>
     obtain ⟨k, f5, n6, rfl, p6, v8⟩ := hrel; subst v8; have u2 := sK p6; clear p6
     by_cases hkn9 : k = n
     ·have v9 : ¬ (k : Int) < (n : Int) := by omega
      have u9 : decide ((k : Int) < (n : Int)) = false := by simp; omega
      have n8 : ((k : Int) == (n : Int)) = true := by simp [hkn9]
      have x1 : Hid (elim F.fld R (cx + 1) = (S, P)) := sK (by
       rw [s2.out]; unfold Bg; simp only; rw [<- HL.out, Jj e0 f5 n6 u2 (fun h => by omega)]; rw [if_neg (by omega)])
      clear hkn9; go_wp2; go_roundw
      case rel =>
       refine ⟨cx + 1, AP, pc, vs, by omega, by go_num, ?_, ?_, ?_, ?_, v1.out, HF.out, k6⟩
       ·rw [x1.out, HL.out]
       ·rw [x1.out, HL.out]
       ·rw [x1.out]; exact HO.out
       ·rw [x1.out, <- HL.out]; exact HP.out
      case measure => simp [intOf]; omega
     ·have w9 : (k : Int) < (n : Int) := by omega
      obtain ⟨b1, o1, d1, w3, n1, x3, j2, v0, _, _⟩ := q0 _ vs S HO u1 e0 k (by omega); unfold maxLen at j2
      by_cases hkz0 : ent S k cx = 0
      ·have j7 : Hid (∀ i, L <= i -> i < k + 1 -> ent S i cx = 0) := sK fun i h1 h2 => by
        by_cases h3 : i = k
        ·rw [h3]; exact hkz0
        ·exact u2 i h1 (by omega)
       rw [hkz0] at n1; clear hkz0 v0; go_wp2; go_roundw
       case rel => exact ⟨k + 1, by omega, by omega, by go_num, j7.out, trivial⟩
       case measure => simp [intOf]; omega
      ·have e6 : fpiv S cx (S.length - L) L = k := Jj e0 f5 n6 u2 fun _ => hkz0
       have r9 : ((ent S k cx : Int) == 0) = false := by simp; exact hkz0
       have n8 : ((k : Int) == (n : Int)) = false := by simp; omega
       have s1 : Hid (elim F.fld R (cx + 1) = (clr F.fld (Cx F.fld (Cf S L k) L cx) L cx n, P ++ [cx])) := sK (by
        rw [s2.out]; unfold Bg; simp only; rw [<- HL.out, e6, e0, if_pos (by omega)])
       have p4 := sK hkz0; have g2 : k < n := by omega
       clear e6 hkz0 hkn9; go_upto_region 11 with fail
       obtain ⟨b2, o2, d2, p8, q8, r8, t6, u6, v6, v3⟩ := q0 _ vs S HO u1 e0 L a0; obtain ⟨_, _, _, z3, _, _, _, g1, q1, y3⟩ := q0 _ vs S HO u1 e0 k g2; rw [v0] at g1; simp only [qm, qc, qd, and_true, true_and] at g1; obtain ⟨⟨rfl, rfl⟩, rfl⟩ := g1; unfold maxLen at t6; have c8 := HO.free L; have d8 := HO.free k; have u3 := HO.put a0 q1 (fun b k2 e => by simp only [qc, qd, and_true] at e; rw [<- e.1]; exact y3); have f6 := Ad wr g L (.slice (some ⟨b1, o1, none⟩) m d1); have w6 := v6.kept f6 (fun b k2 e _ => by simp only [qc, qd, and_true] at e; rw [<- e.1]; exact v3); obtain ⟨X, hX⟩ : ∃ X, (wr.setCell ⟨g, L, none⟩ (.slice (some ⟨b1, o1, none⟩) m d1)).cell? ⟨g, k, none⟩ = some X := ⟨_, u3.cell g2⟩
       have s6 := u3.put g2 w6 (fun b k2 e => by simp only [qc, qd, and_true] at e; rw [<- e.1]; exact v3); have m7 := sK s6; have z2 := sK v0; have r7 := sK u6; clear v0 u6 q8 n1 u3 s6 f6 w6 v6 q1 z3; go_region; obtain ⟨W2, f1⟩ := xQ (((wr.setCell ⟨g, L, none⟩ (.slice (some ⟨b1, o1, none⟩) m d1)).setCell ⟨g, k, none⟩ (.slice (some ⟨b2, o2, none⟩) m d2)).drew); have q5 : (S.set L (S.getD k [])).set k (S.getD L []) = Cf S L k := rfl; have g3 : Df W2 W.heap.size g n ca (Hj vs L k) (Cf S L k) := by
        rw [f1, <- q5]; unfold Hj; rw [z2.out, r7.out]; exact m7.below (Ae (bR) 1)
       have i8 : (wr.setCell ⟨g, L, none⟩ (.slice (some ⟨b1, o1, none⟩) m d1)).grownBy ((wr.setCell ⟨g, L, none⟩ (.slice (some ⟨b1, o1, none⟩) m d1)).setCell ⟨g, k, none⟩ (.slice (some ⟨b2, o2, none⟩) m d2)) (some g) := Ad _ _ _ _; have l5 : OwnN W2 W.heap.size AP L pc P := by
        rw [f1]; refine OwnN.below ?_ (Ae (bR) 1); refine (HP.kept (Ad _ g L _) (fun x hx e => ?_)).kept (Ad _ g k _) (fun x hx e => ?_) <;>
        exact (v1 x hx).1 (Aq e).symm
       have c5 : From W W2 := by
        rw [f1]; exact Ae ((HF.setCell (p := ⟨g, L, none⟩) a2 _).setCell (p := ⟨g, k, none⟩) a2 _) 1
       have g6 : g < W2.heap.size := by rw [f1]; simp [World.setCell]; exact k6
       have i5 : ∀ x, AP = sQ x -> x ≠ g ∧ Off (Hj vs L k) n [x] := fun x hx => ⟨(v1 x hx).1, (v1 x hx).2.swap HO.lenV a0 g2⟩
       rw [<- f1]; clear f1 hX c8 d8 p8 w3 x3 j2 r8 t6 q5 i8; have hS : Mat F.fld m (Cf S L k) := Hr u1 (by omega) (by omega); have k3 : (Cf S L k).length = n := by rw [Eh]; exact e0
       have a6 : ent (Cf S L k) L cx ≠ 0 := by
        unfold ent; rw [Gl (by omega) (by omega)]
        by_cases hkL : L = k
        ·rw [if_pos hkL]
         have := p4.out; unfold ent at this
         rwa [<- hkL] at this
        ·rw [if_neg hkL, if_pos rfl]; exact p4.out
       generalize Hj vs L k = vs9 at *; generalize Cf S L k = S9 at *; have c6 : ent S9 L cx < F.q := hS.lt d0 L cx; obtain ⟨b3, o3, d3, r5, s5, l9, x7, t5, u5, m9⟩ := q0 W2 vs9 S9 g3 hS k3 L a0; unfold maxLen at x7; have q4 := sK hS; have z0 := sK g3; have w1 := sK l5; have y0 := sK c5; have i1 := sK i5; have j1 := sK u5; have l3 : Mat F.fld m (Cx F.fld S9 L cx) := Hw d0 hS (by omega); have m3 : (Cx F.fld S9 L cx).length = n := by rw [Fi]; exact k3
       have y2 : Hid (ent S9 L cx = 1 -> Cx F.fld S9 L cx = S9) := sK fun h => by
        unfold Cx; rw [h, d0.inv1, Ie d0 (hS.rowLt (by omega)), Dx]
       have w4 : Hid (Cx F.fld S9 L cx = S9.set L (Bb F.fld (F.inv (ent S9 L cx)) (S9.getD L []))) := sK rfl; have k4 := sK a6; have z5 : Els F (S9.getD L []) := Mat.els hS (by omega); clear hS g3 l5 c5 i5 u5 a6; generalize Cx F.fld S9 L cx = T at *; have m4 : Hid (∀ wx, From W2 wx -> cQ 156 _ wx (Ah (.int .i64 (F.inv (ent S9 L cx) : Int)) wx)) := sK fun wx h9 => n4 wx (HW wx (Aa h9 y0.out)) _ c6 k4.out
       have v4 : Hid (∀ wx, From W2 wx -> cQ 155 _ wx _) := sK fun wx h9 => x2 wx (HW wx (Aa h9 y0.out)) (F.inv (ent S9 L cx)) (d0.invL _ c6) _ d3 (S9.getD L []) (j1.below h9) z5
       have x0 : Hid (∀ wx, From W2 wx -> wx.cell? ⟨g, L, none⟩ = some (.slice (some ⟨b3, o3, none⟩) m d3) ∧ wx.cell? ⟨b3, o3 + cx, none⟩ = some (nQ (ent S9 L cx)) ∧ wx.frozen? ⟨g, L, none⟩ = false) := sK fun wx h9 => by
        have h8 := q0 wx vs9 S9 (z0.below h9) q4 k3 L a0; obtain ⟨b4, o4, d4, h1, h2, _, _, h5, _, _⟩ := h8; rw [t5] at h5; simp only [qm, qc, qd, and_true, true_and] at h5; obtain ⟨⟨rfl, rfl⟩, rfl⟩ := h5; exact ⟨h1, h2, (z0.below h9).free L⟩
       clear z5; generalize hene : ent S9 L cx = en at *; clear hene; have s9 : W2.heap.size <= W2.heap.size := qb _; go_upto_if 69 with fail
       go_cut [] from 16 to 134 (fun wx => ∃ l2, Df wx W.heap.size g n ca l2 T ∧ OwnN wx W.heap.size AP L pc P ∧ (∀ x, AP = sQ x -> x ≠ g ∧ Off l2 n [x]) ∧ From W wx ∧ g < wx.heap.size)
       case first =>
        clear l3 m3 v3 y3
        by_cases h1 : en = 1
        ·have f4 : ((en : Int) != 1) = false := by simp [h1]
         have o0 := sK (y2 h1); clear h1; go_wp2; go_meet
         case rel => exact ⟨vs9, by rw [o0.out]; exact z0.out, w1.out, i1.out, y0.out, g6⟩
        ·have f4 : ((en : Int) != 1) = true := by simp; omega
         simp only [f4]; have n2 : Hid (∀ x, AP = sQ x -> x < W2.heap.size) := sK fun x hx => by
          rcases w1.form with ⟨h9, _⟩ | ⟨g9, h9, _, h10, _⟩
          ·rw [hx] at h9; cases h9
          ·rw [hx] at h9
           simp only [qc, qd, and_true] at h9; omega
         have q7 := w4; generalize Bb F.fld (F.inv en) (S9.getD L []) = sr at *; generalize F.inv en = ei at *; clear h1 y2 f4; go_upto_region 13 with fail
         clear r5 s5; have f3 : From W2 W2 := From.refl W2; refine wpT 18 137 [.v (.slice (sQ g) n ca), .v (nQ L), .v (.agg #[nQ F.p, nQ M, .slice A mL c]), .v (.agg #[nQ F.p, nQ M, .slice A mL c]), .v (.slice (sQ g) n ca), .v (nQ L), .v (.pointer (some ⟨g, L, none⟩)), .v (.slice (some ⟨b3, o3, none⟩) m d3), .v (nQ cx), .v (.pointer (some ⟨b3, o3 + cx, none⟩)), .v (nQ en), .v (nQ ei), .v (.slice (sQ g) n ca), .v (nQ L), .v (.pointer (some ⟨g, L, none⟩)), .v (.slice (some ⟨b3, o3, none⟩) m d3), .r (Gs W2.heap.size m sr) Gs.lasting, .v (.pointer (some ⟨g, L, none⟩))] W2 (by kernel_rfl) (by kernel_rfl) (by kernel_rfl) rfl (From.drew f3) ?_; simp only [Tk]
         iterate 16 (refine .z (fun wx hx _ hK => by first | (go_simp; exact Kz hK) | (obtain ⟨c0, c1, c2⟩ := HC wx (Aa hx y0.out); go_simp; exact Kz hK) | (obtain ⟨r3, y7, _⟩ := x0 wx hx; go_simp; exact Kz hK) | (go_simp; refine (m4 wx hx).mono ?_; rintro e w' ⟨rfl, t0⟩; exact hK.out _ _ rfl t0)) ?_; simp only [Pt])
         refine .r (fun wx hx hd KK hK => ?_) (fun bO => ?_)
         ·clear hd
          go_simp; refine (v4 wx hx).mono ?_; rintro e w' ⟨A', cc, rfl, ho, t0⟩; exact hK.out _ _ ⟨A', cc, rfl, ho.mono hx.size⟩ t0
         simp only [Pt]; refine .z (fun _ _ _ hK => by go_simp; exact Kz hK) ?_; simp only [Pt]; refine .nil fun w5 j0 hd => ?_
         obtain ⟨c9, i9, rfl, e3⟩ := hd _ (.head _); clear hd; obtain ⟨b5, rfl, m1, p3⟩ := e3.block hm0; obtain ⟨r3, _, a8⟩ := x0 w5 j0; have hp := (z0.below j0).put a0 e3.rd (fun b k2 e => by simp only [qc, qd, and_true] at e; rw [<- e.1]; omega); have v2 := sK hp; have r0 := sK j0; have p2 := sK m1; clear hp e3 j0 m1 p3; go_wp2; go_meet
         case rel =>
          refine ⟨_, by rw [q7.out]; exact v2.out, (w1.below r0.out).kept (Ad w5 g L _) (fun x hx e => (i1 x hx).1 (Aq e).symm), fun x hx => ⟨(i1 x hx).1, (i1 x hx).2.putA z0.lenV a0 ?_⟩, (Aa r0 y0.out).setCell (p := ⟨g, L, none⟩) a2 _, ?_⟩
          ·have := n2 x hx
           have := p2.out; simp; omega
          ·have := r0.size
           simp [World.setCell]; omega
       case rest =>
        clear x0 v4 m4 y2 w4 k4 j1 z0 w1 i1 y0 q4 r5 s5 t5 g6; obtain ⟨l2, hG, m5, j5, d5, i6⟩ := hcut; have HG := sK hG; have u4 := sK m5; have t4 := sK j5; have l4 := sK d5; have l1 := sK l3; have f0 := sK m3; clear hG m5 j5 d5 l3 m3; go_wp2
        go_loopw [13] (fun g4 wr => ∃ (i : Nat) (g0 : VQ), i <= n ∧ g4 = nQ i ∧ Df wr W.heap.size g n ca g0 (clr F.fld T L cx i) ∧ OwnN wr W.heap.size AP L pc P ∧ (∀ x, AP = sQ x -> x ≠ g ∧ Off g0 n [x]) ∧ From W wr ∧ g < wr.heap.size) (fun g4 _ => n - (intOf g4).toNat)
        case atStart => exact ⟨0, l2, qe _, rfl, HG.out, u4.out, t4.out, l4.out, i6⟩
        case round =>
         clear HG u4 t4 l4 i6; obtain ⟨i, g0, s3, rfl, hG, o5, k5, e5, j6⟩ := hrel; have h0 := sK hG; have n0 := sK o5; have l0 := sK k5; have m0 := sK e5; clear hG o5 k5 e5; obtain ⟨we, rfl⟩ := xQ wr
         by_cases hin9 : i = n
         ·have l8 : ¬ (i : Int) < (n : Int) := by omega
          have t9 : decide ((i : Int) < (n : Int)) = false := by simp; omega
          have h7 := sK hin9; clear hin9; have n7 := sK (n0.alloc (.cells #[nQ cx] 3)); have b8 : cx < 1000000 := by omega
          have bB : W.heap.size <= we.heap.size := m0.size; go_wp2_with (at_builtin; refine Bl rfl (.tmp 129) (.tmp 131) 22 rfl i0 Tryz.underlying22 k8 x8 y8 z8 W.heap.size _ _ _ _ rfl n7 _ 0 cx rfl (by go_simp) b8 (by omega) (by simp; omega) ?_; intro g' c2 w2 g5 e2 r6); have t3 : ∀ x, (Value.slice AP L pc).ownBlock = some x -> AP = sQ x := fun x hx => by
           rcases n0.form with ⟨h9, _⟩ | ⟨g9, h9, _⟩
           ·rw [h9] at hx; simp [Value.ownBlock] at hx
           ·rw [h9] at hx ⊢
            have : g9 = x := by simpa [Value.ownBlock] using hx
            rw [this]
          have m6 : Df w2 W.heap.size g n ca g0 (clr F.fld T L cx i) := (h0.below (Ac we _)).kept e2 (fun e => (l0 g (t3 g e)).1 rfl) (fun j b9 hj q3 e => by
           have := (l0 b9 (t3 b9 e)).2 j b9 hj q3; simp at this)
          have z4 : From W w2 := (m0.alloc (by omega) (.cells #[nQ cx] 3)).grown e2 (by simp; omega) (fun x hx => by
           rcases n0.form with ⟨h9, _⟩ | ⟨g9, h9, h10, _⟩
           ·rw [h9] at hx; simp [Value.ownBlock] at hx
           ·rw [h9] at hx
            have : g9 = x := by simpa [Value.ownBlock] using hx
            omega)
          have l6 : g' ≠ g ∧ Off g0 n [g'] := by
           rcases r6 with h9 | h9
           ·exact l0 g' h9
           ·have bD : g' = we.heap.size + 1 := by rw [h9]; simp
            refine ⟨by omega, fun j b9 hj q3 hm => ?_⟩; have a1 : Mat F.fld m (clr F.fld T L cx i) := Lg d0 l1 (by rw [f0.out]; exact a0) i (by rw [f0.out]; exact s3); have h8 := h0.blkLt (m := m) (fun k9 m8 => Mat.len a1 (by rw [Ea, f0.out]; exact m8)) hm0 hj q3; simp at hm; omega
          have g8 : g < w2.heap.size := by
           have := e2.size; simp at this; omega
          have g7 := sK m6; have l7 := sK g5; have e7 := sK z4; have f7 := sK l6; clear m6 g5 z4 l6 e2 r6 t3; go_wp2; go_roundw
          case rel =>
           have e9 : (P ++ [cx]).length = L + 1 := by rw [Hq, HL.out]; rfl
           refine ⟨cx + 1, sQ g', c2, g0, by omega, by go_num, ?_, ?_, ?_, ?_, ?_, e7.out, g8⟩
           ·rw [s1.out, e9]; go_num
           ·rw [s1.out, e9]
           ·rw [s1.out]
            have := g7.out
            rwa [h7.out] at this
           ·rw [s1.out, e9]; exact l7.out
           ·intro x hx
            simp only [qc, qd, and_true] at hx; rw [<- hx]; exact f7.out
          case measure => simp [intOf]; omega
         ·have l8 : (i : Int) < (n : Int) := by omega
          have f2 : i < n := by omega
          have a1 : Mat F.fld m (clr F.fld T L cx i) := Lg d0 l1 (by rw [f0.out]; exact a0) i (by rw [f0.out]; exact s3); have y4 : (clr F.fld T L cx i).length = n := by rw [Ea]; exact f0.out
          obtain ⟨b6, o6, d6, w3, n1, x3, j2, v0, q1, y3⟩ := q0 _ g0 _ h0 a1 y4 i f2; unfold maxLen at j2; have e4 : ent (clr F.fld T L cx i) i cx < F.q := a1.lt d0 i cx; have r2 : Hid (clr F.fld T L cx (i + 1) = if i = L then clr F.fld T L cx i else (clr F.fld T L cx i).set i (addRow F.fld ((clr F.fld T L cx i).getD i []) (F.fld.neg (ent (clr F.fld T L cx i) i cx)) (T.getD L []))) := sK rfl; obtain ⟨x, c4⟩ := xQ (ent (clr F.fld T L cx i) i cx); rw [<- c4] at n1 e4; have a3 := sK c4; have r1 := sK a1; have j1 := sK q1; have z2 := sK v0; clear c4 a1 q1 v0 hin9
          by_cases hic : i = L
          ·have n9 : ((i : Int) != (L : Int)) = false := by simp [hic]
           have o0 : Hid (clr F.fld T L cx (i + 1) = clr F.fld T L cx i) := sK (by rw [r2.out, if_pos hic]); clear hic; go_wp2; go_roundw
           case rel => exact ⟨i + 1, g0, by omega, by go_num, by rw [o0.out]; exact h0.out, n0.out, l0.out, m0.out, j6⟩
           case measure => simp [intOf]; omega
          ·have o9 : ((i : Int) != (L : Int)) = true := by simp; omega
           by_cases w0 : x = 0
           ·have w8 : ((x : Int) != 0) = false := by simp [w0]
            have o0 : Hid (clr F.fld T L cx (i + 1) = clr F.fld T L cx i) := sK (by
             have q6 : i < (clr F.fld T L cx i).length := by omega
             rw [r2.out, if_neg hic, <- a3.out, w0, Hf d0 (r1.len q6) (l1.len (by rw [f0.out]; exact a0)) (r1.rowLt q6) (l1.rowLt (by rw [f0.out]; exact a0)), Dx])
            clear hic w0; go_wp2; go_roundw
            case rel => exact ⟨i + 1, g0, by omega, by go_num, by rw [o0.out]; exact h0.out, n0.out, l0.out, m0.out, j6⟩
            case measure => simp [intOf]; omega
           ·have w8 : ((x : Int) != 0) = true := by simp; exact w0
            have x6 : (clr F.fld T L cx i).getD L [] = T.getD L [] := by rw [Fo _ (by rw [f0.out]; exact s3), if_neg (by omega)]
            obtain ⟨b7, o7, d7, z3, _, s8, t8, g1, a4, aA⟩ := q0 _ g0 _ h0 r1 y4 L a0; rw [x6] at a4; have o0 : Hid (clr F.fld T L cx (i + 1) = (clr F.fld T L cx i).set i (addRow F.fld ((clr F.fld T L cx i).getD i []) (F.neg x) (T.getD L []))) := sK (by
             rw [r2.out, if_neg hic, <- a3.out]; rfl)
            have p7 := sK a4; have s7 := sK g1; have x0 : Hid (∀ wx, From we wx -> wx.cell? ⟨g, i, none⟩ = some (.slice (some ⟨b6, o6, none⟩) m d6) ∧ wx.cell? ⟨b6, o6 + cx, none⟩ = some (nQ x) ∧ wx.cell? ⟨g, L, none⟩ = some (.slice (some ⟨b7, o7, none⟩) m d7) ∧ wx.frozen? ⟨g, i, none⟩ = false) := sK fun wx h9 => by
             have h8 := h0.below h9; refine ⟨by rw [h8.cell f2, z2.out], ?_, by rw [h8.cell a0, s7.out], h8.free i⟩; have := (j1.below h9).cellAt y5; rw [this, a3.out]; rfl
            have k7 : Hid (∀ wx, cQ 158 _ wx _) := sK fun wx => r4 wx x e4
            have a7 : Hid (∀ wx, From we wx -> cQ 157 _ wx _) := sK fun wx h9 => m2 wx (HW wx (Aa h9 m0.out)) (F.neg x) (d0.negL _ e4) _ _ d6 d7 _ _ (j1.below h9) (p7.below h9) (Mat.els r1 (by omega)) (Mat.els l1 (by rw [f0.out]; exact a0))
            have n2 : Hid (∀ x, AP = sQ x -> x < we.heap.size) := sK fun x hx => by
             rcases n0.form with ⟨h9, _⟩ | ⟨g9, h9, _, h10, _⟩
             ·rw [hx] at h9; cases h9
             ·rw [hx] at h9
              simp only [qc, qd, and_true] at h9; omega
            clear hic w0 x6 g1 a4 x3 s8 t8; generalize addRow F.fld ((clr F.fld T L cx i).getD i []) (F.neg x) (T.getD L []) = nr at *; generalize F.neg x = nx at *; generalize clr F.fld T L cx i = C0 at *; go_upto_region 18 with fail
            clear w3 n1 z3; have f3 : From we we := From.refl we; refine wpT 22 137 [.v (.slice (sQ g) n ca), .v (nQ i), .v (.agg #[nQ F.p, nQ M, .slice A mL c]), .v (.slice (sQ g) n ca), .v (nQ i), .v (.pointer (some ⟨g, i, none⟩)), .v (.slice (some ⟨b6, o6, none⟩) m d6), .v (.agg #[nQ F.p, nQ M, .slice A mL c]), .v (.slice (sQ g) n ca), .v (nQ i), .v (.pointer (some ⟨g, i, none⟩)), .v (.slice (some ⟨b6, o6, none⟩) m d6), .v (nQ cx), .v (.pointer (some ⟨b6, o6 + cx, none⟩)), .v (nQ x), .v (nQ nx), .v (.slice (sQ g) n ca), .v (nQ L), .v (.pointer (some ⟨g, L, none⟩)), .v (.slice (some ⟨b7, o7, none⟩) m d7), .r (Gs we.heap.size m nr) Gs.lasting, .v (.pointer (some ⟨g, i, none⟩))] we (by kernel_rfl) (by kernel_rfl) (by kernel_rfl) rfl (From.drew f3) ?_; simp only [Tk]
            iterate 20 (refine .z (fun wx hx _ hK => by first | (go_simp; exact Kz hK) | (obtain ⟨c0, c1, c2⟩ := HC wx (Aa hx m0.out); go_simp; exact Kz hK) | (obtain ⟨r3, y7, a8, _⟩ := x0 wx hx; go_simp; exact Kz hK) | (go_simp; refine (k7 wx).mono ?_; rintro e w' ⟨rfl, t0⟩; exact hK.out _ _ rfl t0)) ?_; simp only [Pt])
            refine .r (fun wx hx hd KK hK => ?_) (fun bG => ?_)
            ·clear hd
             go_simp; refine (a7 wx hx).mono ?_; rintro e w' ⟨A', cc, rfl, ho, t0⟩; exact hK.out _ _ ⟨A', cc, rfl, ho.mono hx.size⟩ t0
            simp only [Pt]
            iterate 1 (refine .z (fun wx hx _ hK => by first | (go_simp; exact Kz hK)) ?_; simp only [Pt])
            refine .nil fun w5 j0 hd => ?_
            obtain ⟨a9, f9, rfl, c3⟩ := hd _ (.head _); clear hd; obtain ⟨b5, rfl, m1, p3⟩ := c3.block hm0; obtain ⟨r3, _, _, p9⟩ := x0 w5 j0; have hp := (h0.below j0).put f2 c3.rd (fun b k2 e => by simp only [qc, qd, and_true] at e; rw [<- e.1]; omega); have v2 := sK hp; have r0 := sK j0; have p2 := sK m1; clear hp c3 j0 m1 p3; go_wp2; go_roundw
            case rel =>
             refine ⟨i + 1, _, by omega, by go_num, by rw [o0.out]; exact v2.out, (n0.below r0.out).kept (Ad w5 g i _) (fun x hx e => (l0 x hx).1 (Aq e).symm), fun x hx => ⟨(l0 x hx).1, (l0 x hx).2.putA h0.lenV f2 ?_⟩, (Aa r0 m0.out).setCell (p := ⟨g, i, none⟩) a2 _, ?_⟩
             ·have := n2 x hx
              have := p2.out; simp; omega
             ·have := r0.size
              simp [World.setCell]; omega
            case measure => simp [intOf]; omega
theorem Xs (w : WQ) (B : OQ) (d : Nat) : cQ 154 #[.slice B 0 d] w (Ba (eQ) w) := by
 go_enter Tryz.func154, Tryz.ntmps154
 go_wp2
 go_loopw [3, 4] (fun ov b1 wr => b1 = zQ ∧ ov = eQ ∧ wr = w) (fun _ _ _ => 0)
 case atStart => exact ⟨rfl, rfl, rfl⟩
 case round =>
  obtain ⟨rfl, rfl, rfl⟩ := hrel; go_wp2; go_ret; exact ⟨rfl, rfl⟩
set_option maxRecDepth 20000 in
theorem Zd (w : WQ) (F : FD) (A : OQ) (c : Nat) (B : OQ) (d m : Nat) :
  cQ 100 #[Ax F A c, .slice B 0 d, nQ m] w (Ah (.tuple #[eQ, eQ]) w) := by
 have e1 : Ax F A c = .agg #[nQ F.p, .int .i64 ((F.m + 1 : Nat) : Int), .slice A (modL F).length c] := rfl
 rw [e1]
 clear e1
 generalize (modL F).length = mL at *
 generalize F.m + 1 = M at *
 unfold Ah
 go_enter Tryz.func100, Tryz.ntmps100
 go_upto_region 1 with fail
 obtain ⟨W, hW, l0, f0, b0⟩ := mk1 w #[nQ F.p, nQ M, .slice A mL c] 24
 rw [hW]
 clear hW
 have d0 := sK f0
 clear b0 f0 l0
 go_upto_region 2 with (go_at_call 154; refine (Xs W B d).mono ?_; rintro e w2 ⟨rfl, rfl⟩)
 go_wp2
 go_loopw [9, 10, 11] (fun pv av cv wr => pv = eQ ∧ av = zQ ∧ cv = zQ ∧ wr = W) (fun _ _ _ _ => 0)
 case atStart => exact ⟨rfl, rfl, rfl, rfl⟩
 case round =>
  obtain ⟨rfl, rfl, rfl, rfl⟩ := hrel
  by_cases hm : (0 : Int) < (m : Int)
  ·go_wp2
   go_ret2; exact ⟨rfl, d0.out⟩
  ·have i1 : decide ((0 : Int) < (m : Int)) = false := by simp; omega
   go_wp2; go_ret2; exact ⟨rfl, d0.out⟩
def Tp (st : LQ × NQ) (w : WQ) (e : Ending) (w' : WQ) : Prop :=
 ∃ A c A2 c2, e = .returned (.tuple #[.slice A st.2.length c, .slice A2 st.2.length c2]) ∧ RdM w' A st.2.length c st.1 ∧ RdN w' A2 st.2.length c2 st.2 ∧ Below w.heap.size w w'
theorem Vc (F : Fld) : ∀ m, elim F [] m = ([], [])
 | 0 => rfl
 | m + 1 => by
  show Bg F m (elim F [] m) = _; rw [Vc F m]; rfl
set_option maxRecDepth 20000 in
theorem aP (w : WQ) (F : FD) (hF : F.Ok) (A : OQ) (c : Nat) (hmod : RdN w A (modL F).length c (modL F)) (B : OQ) (n d m : Nat) (R : LQ) (hR : RdM w B n d R) (hM : Mat F.fld m R) (hm0 : 0 < m) (hm9 : m <= 1000) (hn9 : n <= 1000) :
  cQ 48 #[Ax F A c, .slice B n d, nQ m] w (Tp (Bc F.fld R m) w) := by
 have hI := Fs hF.fldOk hM m (qb _)
 have m0 : (elim F.fld R m).2.length <= n := by
  have h1 := hI.ple; have h2 := hI.len; have h3 := hR.len; omega
 have a0 : Hid (0 < n -> ∀ wx, From w wx -> cQ 100 #[Ax F A c, .slice B n d, nQ m] wx (Mr n (elim F.fld R m) wx)) := sK fun h0 wx h9 => gV wx F hF A c (hmod.below h9) B n d m R (hR.below h9) hM hm0 hm9 h0 hn9
 have g0 : Hid (n = 0 -> ∀ wx, cQ 100 #[Ax F A c, .slice B n d, nQ m] wx (Ah (.tuple #[eQ, eQ]) wx)) := sK fun h0 wx => by
  subst h0; exact Zd wx F A c B d m
 have HZ : Hid (n = 0 -> elim F.fld R m = ([], [])) := sK fun h0 => by
  have : R = [] := Lq (by rw [hR.len]; exact h0); rw [this, Vc]
 have o0 : Bc F.fld R m = ((elim F.fld R m).1.take (elim F.fld R m).2.length, (elim F.fld R m).2) := rfl
 rw [o0]
 have e1 : Ax F A c = .agg #[nQ F.p, .int .i64 ((F.m + 1 : Nat) : Int), .slice A (modL F).length c] := rfl
 rw [e1] at a0 g0 ⊢
 clear e1 hmod hI o0 hR hM
 generalize (modL F).length = mL at *
 generalize F.m + 1 = M at *
 generalize elim F.fld R m = st at *
 obtain ⟨R1, P1⟩ := st
 simp only at m0
 obtain ⟨L, hL⟩ := xQ P1.length
 unfold Tp
 unfold Mr at a0
 simp only at a0 ⊢
 rw [<- hL] at m0 a0 ⊢
 have HL := sK hL
 clear hL
 go_enter Tryz.func48, Tryz.ntmps48
 go_upto_region 1 with fail
 obtain ⟨W, hW, l0, f0, b0⟩ := mk1 w #[nQ F.p, nQ M, .slice A mL c] 24
 rw [hW]
 clear hW
 have d0 := sK f0
 obtain ⟨c0, c1, c2⟩ := b0.t3
 clear b0 f0 l0
 by_cases hn0 : n = 0
 ·have i0 := HZ hn0
  have r0 : L = 0 := by
   have h1 : P1 = [] := congrArg Prod.snd i0; have := HL.out; rw [h1] at this; simpa using this
  have z0 : R1 = [] := congrArg Prod.fst i0; have y0 : P1 = [] := congrArg Prod.snd i0; subst r0 z0 y0; have HC := sK (g0 hn0); clear a0 g0 HZ i0 hn0; go_wp2_with (go_at_call 100; refine (HC W).mono ?_; rintro e w2 ⟨rfl, j0⟩); go_ret2; exact ⟨none, 0, none, 0, rfl, RdM.empty _ _ _ (by simp), RdN.nil _ _ (by simp), Aa j0 d0.out⟩
 ·have HC := sK (a0 (by omega) W d0.out)
  have a1 : 0 < n := by omega
  clear a0 g0 HZ hn0; go_upto_region 2 with (go_at_call 100; refine HC.mono ?_; rintro e w2 ⟨A5, c5, A6, c6, rfl, e0, n0, j0⟩)
  have t0 := sK e0; have v0 := sK n0; have q0 := sK j0; have d1 := e0.cap; have w0 := e0.max; unfold maxLen at w0; obtain ⟨b5, o5, _, _, rfl, _⟩ := e0.at a1; clear e0 n0 j0 c0 c1 c2; have x0 : L <= c5 := by omega
  have f1 : (L : Int) <= (c5 : Int) := by omega
  have g1 : ¬ (c5 : Int) < (L : Int) := by omega
  go_wp2; go_ret2; exact ⟨_, c5, A6, c6, rfl, t0.head (by omega) x0 (qb _), v0.out, Aa q0 d0.out⟩
theorem Vf (w : WQ) (F : FD) (hF : F.Ok) (A : OQ) (c : Nat) (i0 : RdN w A (modL F).length c (modL F)) (m : Nat) (n0 : 1 <= m) (w0 : m <= 64) (B : OQ) (n d : Nat) (R : List (List Int)) (hR : RdMZ w B n d R) :
  cQ 19 #[Ax F A c, matV m B n d] w (Says (∃ Rn P, RdM w B n d Rn ∧ Rref F.fld m Rn P) w) := by
 have d0 := sK fun (wx : WQ) (h9 : From w wx) => Wt wx F hF A c (i0.below h9) m n0 w0 B n d R (hR.below h9)
 have l0 := sK fun (wx : WQ) (h9 : From w wx) (Rn : LQ) (h1 : RdM w B n d Rn) (h2 : Mat F.fld m Rn) (h3 : n <= 256) => aP wx F hF A c (i0.below h9) B n d m Rn (h1.below h9) h2 n0 (by omega) (by omega)
 have z0 := sK fun (h1 : ∀ i, i < n -> (R.getD i []).length = m) (h2 : ∀ i, i < n -> ∀ j, j < m -> 0 <= (R.getD i []).getD j 0 ∧ (R.getD i []).getD j 0 < (F.q : Int)) => hR.nat hF h1 h2
 have d1 := sK fun (Rn : LQ) (h2 : Mat F.fld m Rn) => (Bn hF.fldOk h2).1
 have e1 : Ax F A c = .agg #[nQ F.p, .int .i64 ((F.m + 1 : Nat) : Int), .slice A (modL F).length c] := rfl
 obtain ⟨V, hV⟩ : ∃ V : Prop, V = (∃ Rn P, RdM w B n d Rn ∧ Rref F.fld m Rn P) := ⟨_, rfl⟩
 have HV := sK hV
 rw [<- hV]
 unfold matV at d0 ⊢
 rw [e1] at d0 l0 ⊢
 clear e1 i0 hR hV
 generalize (modL F).length = mL at *
 generalize F.m + 1 = M at *
 unfold Says at d0 ⊢
 unfold Tp at l0
 go_enter Tryz.func19, Tryz.ntmps19
 go_upto_region 1 with fail
 obtain ⟨W, hW, j1, e0, b0, b1⟩ := mk2 w #[nQ F.p, nQ M, .slice A mL c] 24 #[nQ m, .slice B n d] 52
 rw [hW]
 clear hW
 have HC : Hid (∀ wx, From W wx -> (wx.cell? ⟨w.heap.size, 0, none⟩ = some (nQ F.p) ∧ wx.cell? ⟨w.heap.size, 1, none⟩ = some (nQ M) ∧ wx.cell? ⟨w.heap.size, 2, none⟩ = some (.slice A mL c)) ∧ (wx.cell? ⟨w.heap.size + 1, 0, none⟩ = some (nQ m) ∧ wx.cell? ⟨w.heap.size + 1, 1, none⟩ = some (.slice B n d))) := sK fun wx hx =>
  have h0 := b0.below hx; have h1 := b1.below hx
  ⟨⟨h0.c0, h0.c1, h0.c2⟩, h1.c0, h1.c1⟩
 have v0 := sK e0
 have HW : Hid (∀ wx, From W wx -> From w wx) := sK fun wx hx => e0.trans (qf hx (by omega))
 clear b0 b1 e0 j1
 obtain ⟨⟨p0, p1, p2⟩, q0, q1⟩ := HC W (From.refl W)
 go_upto_region 2 with (go_at_call 47; refine (d0 W v0.out).mono ?_; rintro e w2 ⟨⟨k0, rfl, hk⟩, m0⟩)
 have a0 := sK m0
 have HK := sK hk
 clear m0 p0 p1 p2 q0 q1 hk
 by_cases hk0 : k0 = 0
 ·subst hk0
  obtain ⟨u1, r1, o1⟩ := HK rfl; obtain ⟨Rn, i1, g1⟩ := z0 r1 o1; have l1 := sK i1; have a1 := sK (d1 Rn g1); have s1 := sK fun (wx : WQ) (h9 : From w wx) => l0 wx h9 Rn i1 g1 u1
  clear i1 g1 r1 o1 z0 d1 l0 HK d0; obtain ⟨⟨p0, p1, p2⟩, q0, q1⟩ := HC w2 a0.out; go_upto_region 5 with (go_at_call 48; refine (s1 w2 (HW _ a0.out)).mono ?_; rintro e w3 ⟨A5, c5, A6, c6, rfl, m1, _, n1⟩)
  have o0 := sK (Aa n1 a0.out); have t0 := sK (Jv w3 A5 B (Bc F.fld Rn m).2.length n c5 d (Bc F.fld Rn m).1 Rn m1 (l1.below (HW _ o0.out))); clear m1 n1 p0 p1 p2 q0 q1; obtain ⟨⟨p0, p1, p2⟩, q0, q1⟩ := HC w3 o0.out
  by_cases hE : (Bc F.fld Rn m).1 = Rn
  ·have f1 : Hid V := sK (by
    rw [HV.out]; refine ⟨Rn, (Bc F.fld Rn m).2, l1.out, ?_⟩; have := a1.out; rw [hE] at this; exact this)
   have hd : decide ((Bc F.fld Rn m).1 = Rn) = true := decide_eq_true hE; rw [hd] at t0; clear hE hd a1; go_wp2_with (go_at_call 30; refine t0.mono ?_; rintro e w4 ⟨rfl, f0⟩); have x0 := sK (Aa f0 o0.out); clear f0; go_ret; exact ⟨⟨0, rfl, fun _ => f1.out⟩, HW _ x0.out⟩
  ·have hd : decide ((Bc F.fld Rn m).1 = Rn) = false := decide_eq_false hE
   rw [hd] at t0; clear hE hd a1; go_wp2_with (go_at_call 30; refine t0.mono ?_; rintro e w4 ⟨rfl, f0⟩); have x0 := sK (Aa f0 o0.out); clear f0; go_ret; exact ⟨⟨5, rfl, fun h => absurd h (by decide)⟩, HW _ x0.out⟩
 ·have w1 : (k0 != 0) = true := by rw [bne_iff_ne]; exact hk0
  have y0 := sK hk0; clear hk0 d0 l0 z0 d1; go_wp2; go_ret; exact ⟨⟨k0, rfl, fun h => absurd h y0.out⟩, HW _ a0.out⟩
theorem RdN.back {w W : WQ} {A : OQ} {n c : Nat} {l : List Int} {r : NQ} (hz : RdZ w A n c l) (hb : From w W) (h : RdN W A n c r) : RdN w A n c r :=
 ⟨h.len, h.cap, h.max, h.sm, fun h0 => by
  obtain ⟨b, j0, rfl, g0, _⟩ := hz.cells h0; refine ⟨b, j0, rfl, g0, fun j hj => ?_⟩; have h1 := h.cellAt hj
  rwa [hb.cell (p := ⟨b, j0 + j, none⟩) g0] at h1⟩
theorem RdM.back {w W : WQ} {A : OQ} {n c : Nat} {R : List (List Int)} {S : LQ} (hz : RdMZ w A n c R) (hb : From w W) (h : RdM W A n c S) : RdM w A n c S :=
 ⟨h.len, h.cap, h.max, fun h0 => by
  obtain ⟨b, j0, rfl, g0, hc⟩ := hz.cells h0; refine ⟨b, j0, rfl, g0, fun i hi => ?_⟩; obtain ⟨Ai, ci, h1, h2⟩ := hc i hi; obtain ⟨b', y1, Aj, cj, e, _, h3, h4⟩ := h.at hi; simp only [qc, qd, and_true] at e; obtain ⟨rfl, rfl⟩ := e; have h5 := (hb.cell (p := ⟨b, j0 + i, none⟩) g0).trans h1; rw [h3] at h5; simp only [qc, qm] at h5; obtain ⟨rfl, e2, rfl⟩ := h5; rw [<- e2] at h2; exact ⟨_, _, (hb.cell (p := ⟨b, j0 + i, none⟩) g0).symm.trans h3, RdN.back h2 hb h4⟩⟩
theorem Wh (w : WQ) (P M : Int) (A : OQ) (n c : Nat) (l : List Int) (hr : RdZ w A n c l) (N : Int) (B : OQ) (k d : Nat) (R : List (List Int)) (hR : RdMZ w B k d R) :
  cQ 6 #[.agg #[.int .i64 P, .int .i64 M, .slice A n c, .int .i64 N, .slice B k d]] w
   (Says (∃ (S : FD) (m : Nat) (Rn : LQ) (Q : NQ), S.Ok ∧ P = (S.p : Int) ∧ M = ((S.m + 1 : Nat) : Int) ∧ n = (modL S).length ∧ RdN w A (modL S).length c (modL S) ∧ N = (m : Int) ∧ 1 <= m ∧ m <= 64 ∧ RdM w B k d Rn ∧ Rref S.fld m Rn Q) w) := by
 have d0 := sK fun (wx : WQ) (h9 : From w wx) => Km wx P M A n c l (hr.below h9)
 obtain ⟨V, hV⟩ : ∃ V : Prop, V = (∃ (S : FD) (m : Nat) (Rn : LQ) (Q : NQ), S.Ok ∧ P = (S.p : Int) ∧ M = ((S.m + 1 : Nat) : Int) ∧ n = (modL S).length ∧ RdN w A (modL S).length c (modL S) ∧ N = (m : Int) ∧ 1 <= m ∧ m <= 64 ∧ RdM w B k d Rn ∧ Rref S.fld m Rn Q) := ⟨_, rfl⟩
 have HV := sK hV
 have HR := sK hR
 have t1 := sK hr
 rw [<- hV]
 clear hV hR hr
 unfold Says at d0 ⊢
 go_enter Tryz.func6, Tryz.ntmps6
 go_upto_region 1 with fail
 obtain ⟨W, hW, j1, e0, b0⟩ := mk1 w #[.int .i64 P, .int .i64 M, .slice A n c, .int .i64 N, .slice B k d] 27
 rw [hW]
 clear hW
 have HC : Hid (∀ wx, From W wx -> wx.cell? ⟨w.heap.size, 0, none⟩ = some (.int .i64 P) ∧ wx.cell? ⟨w.heap.size, 1, none⟩ = some (.int .i64 M) ∧ wx.cell? ⟨w.heap.size, 2, none⟩ = some (.slice A n c) ∧ wx.cell? ⟨w.heap.size, 3, none⟩ = some (.int .i64 N) ∧ wx.cell? ⟨w.heap.size, 4, none⟩ = some (.slice B k d)) := sK fun wx hx =>
  have h0 := b0.below hx
  ⟨h0.c0, h0.c1, h0.c2, h0.c3, h0.c4⟩
 have v0 := sK e0
 have HW : Hid (∀ wx, From W wx -> From w wx) := sK fun wx hx => e0.trans (qf hx (by omega))
 clear b0 e0 j1
 obtain ⟨p0, p1, p2, p3, p4⟩ := HC W (From.refl W)
 go_upto_region 2 with (go_at_call 7; refine (d0 W v0.out).mono ?_; rintro e w2 ⟨⟨k0, rfl, hk⟩, m0⟩)
 have a0 := sK m0
 have HK := sK hk
 clear m0 p0 p1 p2 p3 p4 hk
 by_cases hk0 : k0 = 0
 ·subst hk0
  obtain ⟨S, hS, rfl, rfl, rfl, i0⟩ := HK rfl; have k1 := sK (RdN.back t1 v0 i0); have HS := sK hS; clear i0 hS HK d0; obtain ⟨p0, p1, p2, p3, p4⟩ := HC w2 a0.out
  by_cases hN1 : N < 1
  ·have x1 : decide (N < 1) = true := decide_eq_true hN1
   go_wp2; go_ret; exact ⟨⟨4, rfl, fun h => absurd h (by decide)⟩, HW _ a0.out⟩
  ·by_cases hN64 : 64 < N
   ·go_wp2
    go_ret; exact ⟨⟨4, rfl, fun h => absurd h (by decide)⟩, HW _ a0.out⟩
   ·obtain ⟨m, rfl⟩ : ∃ m : Nat, N = (m : Int) := ⟨N.toNat, by omega⟩
    have n0 : 1 <= m := by omega
    have w0 : m <= 64 := by omega
    have r0 := sK (Vf w2 S HS A c (k1.below (HW _ a0.out)) m n0 w0 B k d R (HR.below (HW _ a0.out))); have f1 : Hid ((∃ Rn P, RdM w2 B k d Rn ∧ Rref S.fld m Rn P) -> V) := sK (by
     rintro ⟨Rn, P, h1, h2⟩; rw [HV.out]; exact ⟨S, m, Rn, P, HS.out, rfl, rfl, rfl, k1.out, rfl, n0, w0, RdM.back HR (HW _ a0.out) h1, h2⟩)
    have e1 : Ax S A c = .agg #[nQ S.p, .int .i64 ((S.m + 1 : Nat) : Int), .slice A (modL S).length c] := rfl; rw [e1] at r0; unfold matV at r0; unfold Says at r0; go_wp2_with (go_at_call 19; refine r0.mono ?_; rintro e w4 ⟨⟨k4, rfl, v1⟩, f0⟩); go_ret; exact ⟨⟨k4, rfl, fun h => f1 (v1 h)⟩, Aa f0 (HW _ a0.out)⟩
 ·have w1 : (k0 != 0) = true := by rw [bne_iff_ne]; exact hk0
  have y0 := sK hk0; clear hk0 d0; go_wp2; go_ret; exact ⟨⟨k0, rfl, fun h => absurd h y0.out⟩, HW _ a0.out⟩
end Go.Proofs.YtoalkldfhkabnaaGreatDoor
