/- Part of WholeTraces. -/
import Derived.Test.YtoalkldfhkabnaaGreatDoorW00
import Derived.Test.YtoalkldfhkabnaaGreatDoorW06
import Derived.Test.YtoalkldfhkabnaaGreatDoorW08
import Derived.Test.YtoalkldfhkabnaaGreatDoorW09
import Derived.Test.YtoalkldfhkabnaaGreatDoorW10
set_option linter.all false
set_option maxRecDepth 10000
set_option maxHeartbeats 16000000
namespace Go.Proofs.YtoalkldfhkabnaaGreatDoor
open Go.RowKit Fq
def slcs (w : WQ) (b off n : Nat) : VQ := (List.range n).map fun i => (w.cell? ⟨b, off + i, none⟩).getD undef
theorem Fe (w : WQ) (b off n : Nat) : (slcs w b off n).length = n := by simp [slcs]
theorem nU (w : WQ) (b off : Nat) {n i : Nat} (hi : i < n) : (slcs w b off n)[i]? = some ((w.cell? ⟨b, off + i, none⟩).getD undef) := by simp [slcs, hi]
theorem RdM.slc {w : WQ} {b off n c : Nat} {R : LQ} (h : RdM w (some ⟨b, off, none⟩) n c R) {i : Nat} (hi : i < n) : ∃ Ai ci, w.cell? ⟨b, off + i, none⟩ = some (.slice Ai (R.getD i []).length ci) ∧ (slcs w b off n)[i]? = some (.slice Ai (R.getD i []).length ci) ∧ RdN w Ai (R.getD i []).length ci (R.getD i []) := by
 obtain ⟨b', a0, Ai, ci, e, _, h1, h2⟩ := h.at hi
 simp only [qc, qd, and_true] at e
 obtain ⟨rfl, rfl⟩ := e
 exact ⟨Ai, ci, h1, by rw [nU w b off hi, h1]; rfl, h2⟩
def redK (F : Fld) (R : LQ) (P : NQ) (v : NQ) : Nat -> NQ
 | 0 => v
 | i + 1 => addRow F (redK F R P v i) (F.neg ((redK F R P v i).getD (P.getD i 0) 0)) (R.getD i [])
theorem Lp {F : Fld} {m : Nat} {R : LQ} (hR : Mat F m R) {P v : NQ} (hv : v.length = m) : ∀ i, i <= R.length -> (redK F R P v i).length = m
 | 0, _ => hv
 | i + 1, h => Bv (Lp hR hv i (by omega)) (hR.len (by omega))
theorem Sy {F : Fld} (h : F.Ok) {m : Nat} {R : LQ} (hR : Mat F m R) {P v : NQ} (hv : v.length = m) (hl : ∀ x ∈ v, x < F.q) : ∀ i, i <= R.length -> ∀ x ∈ redK F R P v i, x < F.q
 | 0, _ => hl
 | i + 1, hi => by
  have ih := Sy h hR (P := P) hv hl i (by omega); have hy : (redK F R P v i).getD (P.getD i 0) 0 < F.q := by
   by_cases e : P.getD i 0 < (redK F R P v i).length
   ·exact ih _ (Ap e _)
   ·rw [qa, Mq (by omega)]; exact h.q0
  exact Gf h (h.negL _ hy) ih (hR.rowLt (by omega))
def Xv (m k : Nat) (l : NQ) (w : WQ) (e : Ending) (w' : WQ) : Prop :=
 ∃ A c A2 c2, e = .returned (.tuple #[.slice A m c, .slice A2 k c2]) ∧ OwnN w' w.heap.size A m c l ∧ Below w.heap.size w w'
theorem Yd (w : WQ) (b : Nat) (F : FD) (hG : GFat w b F) (m n c : Nat) (B : OQ) (R : LQ) (P : NQ) (hR : RdM w B n c R) (hRr : Rref F.fld m R P) (A : OQ) (pc : Nat) (hP : RdN w A P.length pc P) (X : OQ) (xc : Nat) (v : NQ) (hx : RdN w X m xc v) (hv : Els F v) (hm0 : 0 < m) (hm9 : m <= 256) :
  cQ 282 #[.agg #[pQ b, nQ m, .slice B n c, .slice A P.length pc], .slice X m xc] w (Xv m P.length (redK F.fld R P v P.length) w) := by
 obtain ⟨i0, x3, i4, j4, k4⟩ := info_parts Bj
 have l0 := hG.ok
 have i1 := l0.fldOk
 have hq := l0.q256
 have hM := hRr.mat
 have z3 : P.length = n := by rw [<- hRr.len, hR.len]
 have s3 := hR.len
 have s4 : n <= 256 := by have := Cn hRr; omega
 have u2 := hx.len
 have e0 : Hid (∀ i, i <= R.length -> (redK F.fld R P v i).length = m) := sK (Lp hM u2)
 have w0 : Hid (∀ i, i <= R.length -> ∀ x ∈ redK F.fld R P v i, x < F.q) := sK (Sy i1 hM u2 hv)
 have e3 : Hid (∀ i, i < P.length -> P.getD i 0 < m) := sK hRr.lt
 have x1 : Hid (∀ i, i < n -> (R.getD i []).length = m ∧ ∀ j, j < m -> (R.getD i []).getD j 0 < F.q) := sK fun i hi => ⟨hM.len (by omega), fun j hj => hM.rowLt (by omega) _ (Ap (by rw [hM.len (by omega)]; exact hj) _)⟩
 have t1 : Hid (∀ wx, From w wx -> GFat wx b F) := sK fun wx h9 => hG.below h9
 have HR := sK hR
 have HP := sK hP
 have r1 := sK fun (wx : WQ) (h9 : From w wx) => Gn wx X m xc v (hx.below h9) (by omega)
 have u4 := hP.cap
 have b4 := hP.max
 have w4 := hR.cap
 have e4 := hR.max
 unfold maxLen at b4 e4
 unfold RetC at r1
 unfold Xv
 clear hG hR hRr hP hx hv hM s3
 rw [z3] at *
 go_enter Tryz.func282, Tryz.ntmps282
 go_upto_region 1 with fail
 obtain ⟨W, hW⟩ := xQ (w.alloc (.cells #[pQ b, nQ m, .slice B n c, .slice A n pc] 158))
 have j2 : From w W := by rw [hW]; exact Ac _ _
 have m4 : W.heap.size = w.heap.size + 1 := by rw [hW]; simp
 have f0 : Blk W w.heap.size #[pQ b, nQ m, .slice B n c, .slice A n pc] := by rw [hW]; exact Blk.new _ _ _
 have HC : Hid (∀ wx, From W wx -> wx.cell? ⟨w.heap.size, 0, none⟩ = some (pQ b) ∧ wx.cell? ⟨w.heap.size, 2, none⟩ = some (.slice B n c) ∧ wx.cell? ⟨w.heap.size, 3, none⟩ = some (.slice A n pc)) := sK fun wx hx =>
  ⟨(f0.below hx).c0, (f0.below hx).c2, (f0.below hx).c3⟩
 have HW : Hid (∀ wx, From W wx -> From w wx) := sK fun wx hx => j2.trans (qf hx (by omega))
 rw [<- hW]
 clear hW f0 j2
 go_upto_region 2 with (go_at_call 125; refine (r1 W (HW W (From.refl W))).mono ?_; rintro e w2 ⟨Ar, cr, rfl, c4, j0, b1⟩)
 obtain ⟨br, rfl, u3, n4⟩ := (j0 hm0).block hm0
 have a3 := sK (j0 hm0)
 have s1 := sK b1
 obtain ⟨c1, d1, e1⟩ := HC w2 b1
 have w3 := (j0 hm0).le
 unfold maxLen at w3
 have y4 : W.heap.size <= w2.heap.size := s1.size
 clear c4 j0 b1
 go_wp2
 go_loopw [5, 16] (fun tv q1 wr => ∃ (i : Nat) (AT : OQ) (ct : Nat) (lt : NQ), i <= n ∧ q1 = nQ i ∧ tv = .slice AT i ct ∧ OwnN wr w2.heap.size AT i ct lt ∧ OwnN wr W.heap.size (sQ br) m cr (redK F.fld R P v i) ∧ From W wr ∧ w2.heap.size <= wr.heap.size) (fun _ q1 _ => n - (intOf q1).toNat)
 case atStart => exact ⟨0, none, 0, [], qe _, rfl, rfl, OwnN.nil _ _, a3.out, s1.out, qb _⟩
 case round =>
  clear c1 d1 e1; obtain ⟨i, AT, ct, lt, hi, rfl, rfl, hT, hO, hF, a5⟩ := hrel; obtain ⟨wo, rfl⟩ := xQ wr; have HT := sK hT; have HO := sK hO; have HF := sK hF; clear hT hO hF
  by_cases hin : i < n
  ·have y3 : (i : Int) < (n : Int) := by omega
   obtain ⟨pb, po, r3, t4, a4⟩ := (HP.below (HW wo HF.out)).at (show i < n by omega); subst r3; have m0 := e3 i hin; have v4 : ((P.getD i 0 : Nat) : Int) < (m : Int) := by omega
   have v2 := HO.cell m0; have o1 : (redK F.fld R P v i).getD (P.getD i 0) 0 < F.q := w0 i (by have := HR.len; omega) _ (Ap (by rw [e0 i (by have := HR.len; omega)]; exact m0) _); have s2 : redK F.fld R P v (i + 1) = addRow F.fld (redK F.fld R P v i) (F.neg ((redK F.fld R P v i).getD (P.getD i 0) 0)) (R.getD i []) := rfl; have x0 := sK s2; have l4 : Hid (P.getD i 0 < m) := sK m0; obtain ⟨y, x2⟩ := xQ ((redK F.fld R P v i).getD (P.getD i 0) 0); rw [<- x2] at v2 o1 x0; clear s2 x2 m0; generalize P.getD i 0 = pi at *; have g4 : y < 1000000 := by omega
   go_upto_region 7 with (at_builtin; refine Bl rfl (.tmp 25) (.tmp 27) 22 rfl i0 Tryz.underlying22 x3 i4 j4 k4 w2.heap.size _ _ _ _ rfl (HT.alloc _) _ 0 y rfl (by go_simp) g4 (by omega) (by simp; omega) ?_; intro gt y0 w6 m2 g0 n2)
   have p4 : gt ≠ br := by
    rcases n2 with h1 | h1
    ·rcases HT.form with ⟨h2, _⟩ | ⟨g9, h2, h3, _⟩
     ·rw [h2] at h1; cases h1
     ·rw [h2] at h1
      simp only [qc, qd, and_true] at h1; omega
    ·simp at h1; omega
   have k2 : ∀ g, (sQ br : OQ) = sQ g -> (Value.slice AT i ct).ownBlock ≠ some g := fun g hg e => by
    simp only [qc, qd, and_true] at hg
    rcases HT.form with ⟨h2, _⟩ | ⟨g9, h2, h3, _⟩
    ·rw [h2] at e; simp [Value.ownBlock] at e
    ·rw [h2] at e; simp [Value.ownBlock] at e; omega
   have f2 := (HO.alloc (.cells #[nQ y] 3)).kept g0 k2; have e2 : From W w6 := (HF.alloc HF.size (.cells #[nQ y] 3)).grown g0 (by have := HF.size; simp; omega) (fun k9 h0 => by
    rcases HT.form with ⟨h2, _⟩ | ⟨g9, h2, h3, _⟩
    ·rw [h2] at h0; simp [Value.ownBlock] at h0
    ·rw [h2] at h0; simp [Value.ownBlock] at h0; omega)
   have p2 := g0.size; simp at p2; have z1 := sK m2; have w1 := sK f2; have b0 := sK e2; have t2 : w2.heap.size <= w6.heap.size := by omega
   clear m2 f2 e2 g0 n2 k2 v2 a4 p2
   by_cases hy0 : y = 0
   ·have h4 : ((y : Int) != 0) = false := by rw [hy0]; rfl
    have g3 : Hid (redK F.fld R P v (i + 1) = redK F.fld R P v i) := sK (by
     rw [x0.out, hy0]; obtain ⟨hl, he⟩ := x1 i hin; exact Hf i1 (n := m) (e0 i (by have := HR.len; omega)) hl (w0 i (by have := HR.len; omega)) (fun x hx => by
      obtain ⟨j, hj, rfl⟩ := Iq.1 hx; have := he j (by omega)
      rwa [qa, qh hj] at this))
    clear hy0; go_wp2; go_roundw
    case rel => exact ⟨i + 1, _, y0, _, by omega, by go_num, rfl, z1.out, by rw [g3.out]; exact w1.out, b0.out, t2⟩
    case measure => simp [intOf]; omega
   ·have h4 : ((y : Int) != 0) = true := by rw [bne_iff_ne]; omega
    obtain ⟨rb, ro, Ai, ci, p3, o2, l1, n0⟩ := HR.at hin; subst p3; obtain ⟨n1, m1⟩ := x1 i hin; rw [n1] at l1 n0; have d4 := ((HW w6 b0.out).cell (p := ⟨rb, ro + i, none⟩) o2).trans l1; have o0 := n0.below (HW w6 b0.out); have l3 : Hid (∀ ub uo, Ai = some ⟨ub, uo, none⟩ -> ub < w.heap.size) := sK fun ub uo e => by
     obtain ⟨b9, o9, e9, h9, _⟩ := n0.cells hm0; rw [e] at e9; simp only [qc, qd] at e9; omega
    clear l1 n0; have r0 : (redK F.fld R P v i).length = m := e0 i (by have := HR.len; omega); have k1 : (redK F.fld R P v (i + 1)).length = m := e0 (i + 1) (by have := HR.len; omega); have n3 : Hid (∀ j, j < m -> (redK F.fld R P v i).getD j 0 < F.q) := sK fun j hj => w0 i (by have := HR.len; omega) _ (Ap (by omega) _)
    have v1 : Hid (∀ j, j < m -> (redK F.fld R P v (i + 1)).getD j 0 = F.add ((redK F.fld R P v i).getD j 0) (F.neg (F.mul y ((R.getD i []).getD j 0)))) := sK fun j hj => by
     rw [x0.out, Co r0 n1 hj]; exact congrArg _ (i1.mulneg (x := y) (y := (R.getD i []).getD j 0) o1 (m1 j hj))
    have m3 := sK m1; have f3 := sK o0; have x4 := HR.cap; obtain ⟨c1, d1, e1⟩ := HC w6 b0.out; have o4 := o0.cap; have v3 := o0.max; unfold maxLen at v3; have z0 := w1.out; rw [<- Cz (redK F.fld R P v (i + 1)) (redK F.fld R P v i)] at z0; have z2 := sK z0; clear n1 m1 o0 z0; generalize R.getD i [] = U at *; generalize hNe : redK F.fld R P v (i + 1) = NX at *; have y2 := sK hNe; generalize redK F.fld R P v i = V at *; clear hNe; go_wp2
    go_loopw [38] (fun jv wr => ∃ j, j <= m ∧ jv = nQ j ∧ OwnN wr W.heap.size (sQ br) m cr (mixL NX V j) ∧ OwnN wr w2.heap.size (sQ gt) (i + 1) y0 (lt ++ [y]) ∧ From W wr ∧ w2.heap.size <= wr.heap.size ∧ RdN wr Ai m ci U) (fun jv _ => m - (intOf jv).toNat)
    case atStart => exact ⟨0, qe _, rfl, z2.out, z1.out, b0.out, t2, f3.out⟩
    case round =>
     clear c1 d1 e1 d4 o2; obtain ⟨j, hj, rfl, hO, hT, hF, f4, hU⟩ := hrel; obtain ⟨we, rfl⟩ := xQ wr; have v0 := sK hO; have a2 := sK hT; have d0 := sK hF; have d2 := sK hU; clear hO hT hF hU
     by_cases hjm : j < m
     ·have r4 : (j : Int) < (m : Int) := by omega
      obtain ⟨ub, uo, o3, b5, d5⟩ := d2.at hjm; subst o3; have c5 : ub ≠ br := by have := l3 ub uo rfl; omega
      have t0 : Hid (∀ wx, From we wx -> wx.cell? ⟨w.heap.size, 0, none⟩ = some (pQ b) ∧ wx.cell? ⟨br, j, none⟩ = some (.int .i64 ((V.getD j 0 : Nat) : Int)) ∧ wx.frozen? ⟨br, j, none⟩ = false) := sK fun wx h9 => by
       have h8 := v0.below h9; refine ⟨(HC wx (Aa h9 d0.out)).1, ?_, h8.free j⟩; rw [h8.cell hjm, Ep k1 r0 (qb j) hjm]
      have u1 : Hid (∀ wx, From we wx -> cQ 108 #[pQ b, iv y, iv (U.getD j 0)] wx (Bs (iv (F.mul y (U.getD j 0))) wx)) := sK fun wx h9 => Fy wx b F (t1 wx (HW wx (Aa h9 d0.out))) _ _ o1 (m3 j hjm)
      have y1 : Hid (∀ wx, From we wx -> cQ 330 #[pQ b, iv (V.getD j 0), iv (F.mul y (U.getD j 0))] wx (Bs (iv (NX.getD j 0)) wx)) := sK fun wx h9 => by
       rw [v1 j hjm]; exact Yb wx b F (t1 wx (HW wx (Aa h9 d0.out))) _ _ (n3 j hjm) (l0.mul_lt _ _)
      have r2 : NX.getD j 0 < 1000000 := by
       rw [v1 j hjm]; have := l0.add_lt (V.getD j 0) (F.neg (F.mul y (U.getD j 0))); omega
      have i3 : Hid (∀ wx, From we wx -> OwnN (wx.setCell ⟨br, j, none⟩ (.int .i64 ((NX.getD j 0 : Nat) : Int))) W.heap.size (sQ br) m cr (mixL NX V (j + 1))) := sK fun wx h9 => by
       have h8 := (v0.below h9).set j r2
       rwa [Cu k1 r0 hjm] at h8
      obtain ⟨f1, g1, l2⟩ := t0 we (From.refl we); unfold iv at u1 y1; clear r2; generalize V.getD j 0 = vj at *; generalize U.getD j 0 = uj at *; generalize F.mul y uj = mm at *; generalize NX.getD j 0 = s at *; go_upto_region 11 with fail
      clear f1 g1 l2; have q3 : From we we := From.refl we; refine wpT 15 62 [.v (.slice (sQ br) m cr), .v (nQ j), .v (pQ w.heap.size), .v (pQ b), .v (.slice (sQ br) m cr), .v (nQ j), .v (.pointer (some ⟨br, j, none⟩)), .v (nQ vj), .v (pQ w.heap.size), .v (pQ b), .v (nQ y), .v (nQ uj), .v (nQ mm), .v (nQ s), .v (.pointer (some ⟨br, j, none⟩))] we (by kernel_rfl) (by kernel_rfl) (by kernel_rfl) rfl (From.drew q3) ?_; simp only [Tk]
      iterate 15 (refine .z (fun wx hx _ hK => by first | (go_simp; exact Kz hK) | (obtain ⟨f1, g1, _⟩ := t0 wx hx; go_simp; exact Kz hK) | (go_simp; refine (u1 wx hx).mono ?_; rintro e w' ⟨rfl, j9, rfl⟩; exact hK.out _ _ rfl (Ae (bR) _)) | (go_simp; refine (y1 wx hx).mono ?_; rintro e w' ⟨rfl, j9, rfl⟩; exact hK.out _ _ rfl (Ae (bR) _))) ?_; simp only [Pt])
      refine .nil fun w8 a0 _ => ?_
      obtain ⟨f1, g1, l2⟩ := t0 w8 a0; have j1 := Ad w8 br j (nQ s); have g2 := (a2.below a0).kept j1 (fun g hg e => by
       simp only [qc, qd, and_true] at hg e; omega)
      have i2 := (d2.below a0).kept j1 (fun b9 o9 t3 _ => by
       simp only [qc, qd] at t3; omega)
      have j3 := sK g2; have k3 := sK i2; have z4 := a0.size; clear g2 i2 j1; go_wp2; go_roundw
      case rel => exact ⟨j + 1, by omega, by go_num, i3 w8 a0, j3.out, (Aa a0 d0.out).setCell (p := ⟨br, j, none⟩) u3 _, by simp [World.setCell]; omega, k3.out⟩
      case measure => simp [intOf]; omega
     ·obtain rfl : j = m := by omega
      have a1 := v0.out; rw [Dp k1 r0, <- y2.out] at a1; have d3 := sK a1; have q4 : decide ((j : Int) < (j : Int)) = false := by simp
      clear a1; go_wp2; go_roundw
      case rel => exact ⟨i + 1, _, y0, _, by omega, by go_num, rfl, a2.out, d3.out, d0.out, f4⟩
      case measure => simp [intOf]; omega
  ·obtain rfl : i = n := by omega
   have y3 : decide ((i : Int) < (i : Int)) = false := by simp
   go_wp2; go_ret2; exact ⟨_, _, _, _, rfl, HO.mono (by omega), HW _ HF.out⟩
structure Eu (w : WQ) (base : Nat) (A : OQ) (n c : Nat) (R : LQ) : Prop where
 len : R.length = n
 own : ∃ vs, w.ownsRow base 22 1 (.slice A n c) n vs ∧ ∀ i, i < n -> ∃ Ai ci, vs.getD i undef = .slice Ai (R.getD i []).length ci ∧ RdN w Ai (R.getD i []).length ci (R.getD i []) ∧
  ∀ b a0, Ai = some ⟨b, a0, none⟩ -> 0 < (R.getD i []).length -> (Value.slice A n c).ownBlock ≠ some b ∧ base <= b
section
variable {w w' : WQ} {base n c : Nat} {A : OQ} {R : LQ}
theorem Eu.nil (w : WQ) (base : Nat) : Eu w base none 0 0 [] := ⟨rfl, [], Rq w base _ 1, fun i hi => absurd hi (by omega)⟩
theorem Eu.below (h : Eu w base A n c R) (hb : Below w.heap.size w w') : Eu w' base A n c R := by
 obtain ⟨vs, h1, h2⟩ := h.own
 refine ⟨h.len, vs, Ag h1 hb (qb _), fun i hi => ?_⟩
 obtain ⟨Ai, ci, h3, h4, h5⟩ := h2 i hi
 exact ⟨Ai, ci, h3, h4.below hb, h5⟩
theorem Eu.head (h : Eu w base A n c R) : n <= c ∧ c <= maxLen := by
 obtain ⟨vs, h1, _⟩ := h.own
 rcases h1.2 with ⟨h2, h3⟩ | ⟨g, c0, cur, h2, _, _, h3, h4, _⟩
 ·simp only [qm] at h2
  rw [h3, h2.2.2]; exact ⟨qb _, by unfold maxLen; omega⟩
 ·simp only [qm] at h2
  rw [h2.2.2]; exact ⟨h3, h4⟩
theorem Eu.rd (h : Eu w base A n c R) : RdM w A n c R := by
 refine ⟨h.len, h.head.1, h.head.2, fun h0 => ?_⟩
 obtain ⟨vs, h1, h2⟩ := h.own
 obtain ⟨g, c0, hv, _, f0⟩ := h1.form h0
 simp only [qm, true_and] at hv
 obtain ⟨rfl, rfl⟩ := hv
 refine ⟨g, 0, rfl, f0, fun i hi => ?_⟩
 obtain ⟨Ai, ci, h3, h4, _⟩ := h2 i hi
 have b0 : vs.length = n := by have := h1.1; omega
 refine ⟨Ai, ci, ?_, h4⟩
 have h6 := h1.cellAt i (by omega)
 rw [Zq, h6, <- h3]
 simp [qa, b0, hi]
theorem Eu.set (h : Eu w base A n c R) {r : Nat} (hr : r < base) (k : Nat) (v : Value) : Eu (w.setCell ⟨r, k, none⟩ v) base A n c R := by
 obtain ⟨vs, h1, h2⟩ := h.own
 have hg := Ad w r k v
 refine ⟨h.len, vs, h1.kept hg ?_, fun i hi => ?_⟩
 ·cases hob : (Value.slice A n c).ownBlock with
  | none =>
   refine .inl ?_; simpa using hob
  | some b =>
   refine .inr fun e => ?_
   have := (h1.lt b hob).1; simp at e; omega
 ·obtain ⟨Ai, ci, h3, h4, h5⟩ := h2 i hi
  exact ⟨Ai, ci, h3, h4.kept hg fun b a0 e h0 e2 => by have := (h5 b a0 e h0).2; omega, h5⟩
end
section
variable {P : Program} {w : WQ} {ops : Array Oper} {rest : List Oper} {o : Oper} {a : Act} {Q : Exit -> Act -> WQ -> Prop}
theorem Gv (hgd : o.guard = none) (s x : Operand) (t : TypeId)
  (ho : o.op = .call { callee := .builtin .append, args := #[s, x], argTypes := #[t, t] }) (i : TypeInfo) (ht : P.underlying t = some (.slice 22)) (hi : P.info? 22 = some i) (hz : i.zero = some (eQ)) (hsize : i.size = 1) (hby : i.bytes = 24)
  (base : Nat) (A : OQ) (n c : Nat) (R : LQ) (hs : a.eval s = .slice A n c) (hown : Eu w base A n c R)
  (b : Nat) (hx : a.eval x = .slice (sQ b) 1 1) (Ai : OQ) (ci : Nat) (l : NQ) (hc : w.cell? ⟨b, 0, none⟩ = some (.slice Ai l.length ci)) (hr : RdN w Ai l.length ci l)
  (hap : ∀ b a0, Ai = some ⟨b, a0, none⟩ -> 0 < l.length -> (Value.slice A n c).ownBlock ≠ some b ∧ base <= b) (hn : n <= 1000000) (hbase : base <= w.heap.size)
  (h : ∀ A' c' w', Eu w' base A' (n + 1) c' (R ++ [l]) -> w.grownBy w' (Value.slice A n c).ownBlock -> wpList P ops Q rest (a.put o.dst (.slice A' (n + 1) c')) w') :
  wpList P ops Q (o :: rest) a w := by
 obtain ⟨vs, h1, h2⟩ := hown.own
 refine wpList_append_lies w hgd s x t ho base 22 i (eQ) 1 24 ht hi hz hsize hby rfl (by omega) _ n vs hs h1 ⟨b, 0, none⟩ 1 1 [.slice Ai l.length ci] hx rfl (fun j u hj => ?_) (by simp [Value.oneCell']) (by omega) (by unfold maxLen; omega) (by omega) hbase _ rfl ?_
 ·cases j with
  | zero =>
   have : u = .slice Ai l.length ci := by simpa using hj.symm
   rw [this, <- hc]; rfl
  | succ j => simp at hj
 ·intro g c0 w' h3 h4 h5 h6
  have b0 : vs.length = n := by have := h1.1; omega
  have g0 : ∀ (B : OQ) (m d : Nat) (u : NQ), RdN w B m d u -> (∀ b a0, B = some ⟨b, a0, none⟩ -> 0 < m -> (Value.slice A n c).ownBlock ≠ some b ∧ base <= b) ->
    RdN w' B m d u ∧ ∀ b a0, B = some ⟨b, a0, none⟩ -> 0 < m -> (Value.slice (sQ g) (n + 1) c0).ownBlock ≠ some b ∧ base <= b := fun B m d u hu ha => by
   have f0 : ∀ b a0, B = some ⟨b, a0, none⟩ -> 0 < m -> b < w.heap.size := fun b a0 e hm => by
    obtain ⟨b', j0, e', i0, _⟩ := hu.cells hm; rw [e] at e'; simp only [qc, qd] at e'; omega
   constructor
   ·cases hob : (Value.slice A n c).ownBlock with
    | none =>
     rw [hob] at h4; exact hu.below ⟨h4.os, h4.tape, h4.output, h4.size, fun k hk => h4.block k hk (by simp)⟩
    | some r =>
     rw [hob] at h4; exact hu.kept h4 fun b a0 e hm e2 => (ha b a0 e hm).1 (by rw [hob, e2])
   ·intro b a0 e hm
    refine ⟨fun e2 => ?_, (ha b a0 e hm).2⟩; have e3 : g = b := by simpa [Value.ownBlock] using e2
    rcases h5 with h5 | h5
    ·exact (ha b a0 e hm).1 (by rw [h5, e3])
    ·have := f0 b a0 e hm
     omega
  refine h _ c0 w' ⟨by rw [Hq, hown.len]; rfl, _, h3, fun k hk => ?_⟩ h4
  by_cases hkn : k < n
  ·obtain ⟨Aj, cj, h7, h8, h9⟩ := h2 k hkn
   have e1 : (R ++ [l]).getD k [] = R.getD k [] := by rw [qa, Pq (by rw [hown.len]; exact hkn), qa]
   have e2 : (vs ++ [Value.slice Ai l.length ci]).getD k undef = vs.getD k undef := by rw [qa, Pq (by rw [b0]; exact hkn), qa]
   rw [e1, e2]; obtain ⟨d0, e0⟩ := g0 _ _ _ _ h8 h9; exact ⟨Aj, cj, h7, d0, e0⟩
  ·obtain rfl : k = n := by omega
   have e1 : (R ++ [l]).getD k [] = l := by rw [qa, Gq (by rw [hown.len]; exact qb _), hown.len, qaa]; rfl
   have e2 : (vs ++ [Value.slice Ai l.length ci]).getD k undef = Value.slice Ai l.length ci := by rw [qa, Gq (by rw [b0]; exact qb _), b0, qaa]; rfl
   rw [e1, e2]; obtain ⟨d0, e0⟩ := g0 _ _ _ _ hr hap; exact ⟨Ai, ci, rfl, d0, e0⟩
end
def Ff (F : Fld) (R : LQ) (P : NQ) (S : LQ) : LQ := S.map fun v => redK F R P v P.length
theorem Mk {F : Fld} (h : F.Ok) {m : Nat} {R S : LQ} {P : NQ} (hR : Rref F m R P) (hS : Mat F m S) : Mat F m (Ff F R P S) := fun r hr => by
 obtain ⟨v, hv, rfl⟩ := qz.1 hr
 obtain ⟨h1, h2⟩ := hS v hv
 have m1 : P.length <= R.length := by rw [hR.len]; exact qb _
 exact ⟨Lp hR.mat h1 _ m1, Sy h hR.mat h1 h2 _ m1⟩
def Yk (m n : Nat) (K : LQ) (w : WQ) (e : Ending) (w' : WQ) : Prop :=
 ∃ A c, e = .returned (matV m A n c) ∧ RdM w' A n c K ∧ Below w.heap.size w w'
theorem gL (w : WQ) (b : Nat) (F : FD) (hG : GFat w b F) (m n c : Nat) (B : OQ) (R : LQ) (P : NQ) (hR : RdM w B n c R) (hRr : Rref F.fld m R P) (A : OQ) (pc : Nat) (hP : RdN w A P.length pc P) (D : OQ) (k d : Nat) (S : LQ) (hS : RdM w D k d S) (hSm : Mat F.fld m S) (hm0 : 0 < m) (hm9 : m <= 256) (l1 : k <= 256) :
  cQ 173 #[.agg #[pQ b, nQ m, .slice B n c, .slice A P.length pc], matV m D k d] w (Yk m k (Ff F.fld R P S) w) := by
 obtain ⟨i1, hj, y2, z2, a3⟩ := info_parts Eg
 have a1 := fun (wx : WQ) (h9 : From w wx) (X : OQ) (xc : Nat) (v : NQ) (hx : RdN wx X m xc v) (hv : Els F v) => Yd wx b F (hG.below h9) m n c B R P (hR.below h9) hRr A pc (hP.below h9) X xc v hx hv hm0 hm9
 have h0 := sK a1
 have HS := sK hS
 have k2 := sK hSm
 have q3 := hS.cap
 have w2 := hS.max
 unfold maxLen at w2
 have o3 := Cn hRr
 unfold Xv at h0
 unfold Yk Ff
 clear a1 hG hR hP hS hSm
 obtain ⟨f, hf⟩ : ∃ f : NQ -> NQ, f = fun v => redK F.fld R P v P.length := ⟨_, rfl⟩
 have x1 : Hid (∀ v, v.length = m -> (∀ x ∈ v, x < F.q) -> (f v).length = m) := sK fun v h1 h2 => by
  rw [hf]; exact Lp hRr.mat h1 _ (by rw [hRr.len]; exact qb _)
 have d2 : Hid (∀ (wx : WQ), From w wx -> ∀ (X : OQ) (xc : Nat) (v : NQ), RdN wx X m xc v -> Els F v -> cQ 282 #[.agg #[pQ b, nQ m, .slice B n c, .slice A P.length pc], .slice X m xc] wx fun e w' => ∃ A c A2 c2, e = .returned (.tuple #[.slice A m c, .slice A2 P.length c2]) ∧ OwnN w' wx.heap.size A m c (f v) ∧ Below wx.heap.size wx w') := sK (by rw [hf]; exact h0.out)
 rw [<- hf]
 clear hf h0 hRr
 generalize P.length = pl at *
 unfold matV
 go_enter Tryz.func173, Tryz.ntmps173
 go_upto_region 2 with fail
 obtain ⟨W, hW⟩ := xQ (((((w.alloc (.cells #[pQ b, nQ m, .slice B n c, .slice A pl pc] 158)).alloc (.cells #[nQ m, .slice D k d] 52)).alloc (.cells #[zQ, eQ] 52)).alloc (.cells #[nQ m, eQ] 52)))
 have r2 : W.heap.size = w.heap.size + 4 := by rw [hW]; simp
 have d1 : From w W := by rw [hW]; exact ((((bR).alloc (qb _) _).alloc (by simp) _).alloc (by simp; omega) _).alloc (by simp; omega) _
 have b2 : Blk W w.heap.size #[pQ b, nQ m, .slice B n c, .slice A pl pc] := by rw [hW]; exact (((Blk.new _ _ _).alloc _).alloc _).alloc _
 have b3 : Blk W (w.heap.size + 1) #[nQ m, .slice D k d] := by
  have h9 := Blk.new (w.alloc (.cells #[pQ b, nQ m, .slice B n c, .slice A pl pc] 158)) #[nQ m, .slice D k d] 52; rw [qi] at h9; rw [hW]; exact (h9.alloc _).alloc _
 have b4 : Blk W (w.heap.size + 1 + 1) #[zQ, eQ] := by
  have h9 := Blk.new ((w.alloc (.cells #[pQ b, nQ m, .slice B n c, .slice A pl pc] 158)).alloc (.cells #[nQ m, .slice D k d] 52)) #[zQ, eQ] 52; rw [qi, qi] at h9; rw [hW]; exact h9.alloc _
 have b5 : Blk W (w.heap.size + 1 + 1 + 1) #[nQ m, eQ] := by
  have h9 := Blk.new (((w.alloc (.cells #[pQ b, nQ m, .slice B n c, .slice A pl pc] 158)).alloc (.cells #[nQ m, .slice D k d] 52)).alloc (.cells #[zQ, eQ] 52)) #[nQ m, eQ] 52; rw [qi, qi, qi] at h9; rw [hW]; exact h9
 rw [<- hW]
 clear hW
 have e1 : W.cell? ⟨w.heap.size + 1, 1, none⟩ = some (.slice D k d) := b3.c1
 have r0 := sK b2
 have t0 := sK b4
 have w0 := sK b5
 have m2 := sK d1
 obtain ⟨s, hs⟩ := xQ w.heap.size
 have j2 := sK hs
 have s3 : w.heap.size <= s := by omega
 rw [<- hs] at e1 r0 t0 w0 r2 ⊢
 clear b2 b3 b4 b5 d1 hs
 go_wp2
 go_loopw [16] (fun n0 wr => ∃ (i : Nat) (AO : OQ) (co : Nat), i <= k ∧ n0 = nQ i ∧ Eu wr W.heap.size AO i co ((S.take i).map f) ∧ Blk wr (s + 1 + 1 + 1) #[nQ m, .slice AO i co] ∧ Blk wr (s + 1 + 1) #[zQ, eQ] ∧ Below (s + 1 + 1) W wr ∧ W.heap.size <= wr.heap.size) (fun n0 _ => k - (intOf n0).toNat)
 case atStart => exact ⟨0, none, 0, qe _, rfl, by simpa using Eu.nil W W.heap.size, w0.out, t0.out, bR, qb _⟩
 case round =>
  clear e1; obtain ⟨i, AO, co, hi, rfl, hR, a0, b0, hB, x2⟩ := hrel; obtain ⟨wo, rfl⟩ := xQ wr; have y0 := sK hR; have s1 := sK a0; have v0 := sK b0; have v1 := sK hB; have f0 := sK (m2.trans (hB.mono (by have := j2.out; omega)))
  by_cases hik : i < k
  ·have u2 : (i : Int) < (k : Int) := by omega
   obtain ⟨db, h3, Ai, ci, p2, m3, s2, i0⟩ := (HS.below f0.out).at hik; subst p2; have k1 : i < S.length := by rw [HS.len]; exact hik
   obtain ⟨l0, m0⟩ := k2 _ (Ap k1 []); rw [l0] at s2 i0; have H9 := sK (d2 wo f0 Ai ci _ i0 m0); have f1 := x1 _ l0 m0; have l2 : Hid ((S.take (i + 1)).map f = (S.take i).map f ++ [f (S.getD i [])]) := sK (Eo f S [] k1); have c0 := a0.t1; obtain ⟨g0, g1, g2, g3⟩ : wo.cell? ⟨s, 0, none⟩ = some (pQ b) ∧ wo.cell? ⟨s, 1, none⟩ = some (nQ m) ∧ wo.cell? ⟨s, 2, none⟩ = some (.slice B n c) ∧ wo.cell? ⟨s, 3, none⟩ = some (.slice A pl pc) := by
    have h9 := r0.keep hB (by omega); exact ⟨h9.c0, h9.c1, h9.c2, h9.c3⟩
   have x0 := sK f1; clear hR a0 b0 hB l0 m0 i0 f1 c0; generalize f (S.getD i []) = v at *; go_upto_region 6 with (go_at_call 282; refine H9.mono ?_; rintro e w5 ⟨Ar, cr, A2, c2, rfl, j0, a0⟩)
   have p3 := a0.size; have r3 : W.heap.size <= wo.heap.size := x2; have B5 := s1.below a0; have z0 : w5.cell? ⟨s + 1 + 1 + 1, 1, none⟩ = some (.slice AO i co) := B5.c1; obtain ⟨br, rfl, k3, l3⟩ := j0.block hm0; have f2 := sK ((y0.below a0).below (Ac w5 (.cells #[.slice (sQ br) m cr] 22))); have w1 : Hid ((w5.alloc (.cells #[.slice (sQ br) m cr] 22)).cell? ⟨w5.heap.size, 0, none⟩ = some (.slice (sQ br) v.length cr)) := sK (by rw [x0.out]; go_simp); have i2 : Hid (RdN (w5.alloc (.cells #[.slice (sQ br) m cr] 22)) (sQ br) v.length cr v) := sK (by rw [x0.out]; exact (j0.alloc _).rd); have e0 : Hid (∀ b, (Value.slice AO i co).ownBlock = some b -> W.heap.size <= b ∧ b < wo.heap.size) := sK fun b e2 => by
    obtain ⟨t3, h8, _⟩ := y0.own; exact h8.lt b e2
   have o1 : Hid (∀ b n1, (some (⟨br, 0, none⟩ : Addr)) = some ⟨b, n1, none⟩ -> 0 < v.length -> (Value.slice AO i co).ownBlock ≠ some b ∧ W.heap.size <= b) := sK fun b n1 e _ => by
    simp only [qc, qd] at e; refine ⟨fun e2 => ?_, by omega⟩; have := (e0 b e2).2; omega
   have n3 : s + 1 + 1 + 1 < w5.heap.size := by omega
   clear j0; go_upto_region 7 with (at_builtin; refine Gv rfl (.tmp 27) (.tmp 29) 25 rfl i1 Tryz.underlying25 hj y2 z2 a3 W.heap.size AO i co _ rfl f2 w5.heap.size rfl _ _ _ w1 i2 o1 (by omega) (by simp; omega) ?_; intro A6 c6 w6 b1 d0; have B6 := (B5.alloc (.cells #[.slice (sQ br) m cr] 22)).kept d0 (fun e => by have := e0 _ e; omega); have n2 : w6.cell? ⟨s + 1 + 1 + 1, 1, none⟩ = some (.slice AO i co) := B6.c1; have o2 := B6.free 1)
   have j1 := Ad w6 (s + 1 + 1 + 1) 1 (.slice A6 (i + 1) c6); have B7 := B6.set 1 (.slice A6 (i + 1) c6); have o0 := (((v0.below a0).alloc (.cells #[.slice (sQ br) m cr] 22)).kept d0 (fun e => by have := e0 _ e; omega)).kept j1 (by simp); have R7 : Eu (w6.setCell ⟨s + 1 + 1 + 1, 1, none⟩ (.slice A6 (i + 1) c6)) W.heap.size A6 (i + 1) c6 ((S.take i).map f ++ [v]) := b1.set (by omega) _ _; have L7 : Below (s + 1 + 1) W (w6.setCell ⟨s + 1 + 1 + 1, 1, none⟩ (.slice A6 (i + 1) c6)) := by
    refine Below.setCell (p := ⟨s + 1 + 1 + 1, 1, none⟩) ?_ (by simp only; omega) _; refine qac ?_ d0 (by simp; omega) (fun k9 l1 => by have := e0 _ l1; omega); exact (v1.trans (a0.mono (by omega))).alloc (by omega) _
   have z1 := sK R7; have u1 := sK B7; have r1 := sK o0; have y1 := sK L7; have v2 := d0.size; simp at v2; clear R7 B7 o0 L7 b1 d0 B6 B5 j1 z0 n2 o2; go_wp2; go_roundw
   case rel =>
    refine ⟨i + 1, A6, c6, by omega, by go_num, by rw [l2.out]; exact z1.out, ?_, r1.out, y1.out, by simp [World.setCell]; omega⟩; have := u1.out; simpa using this
   case measure => simp [intOf]; omega
  ·obtain rfl : i = k := by omega
   have u2 : decide ((i : Int) < (i : Int)) = false := by simp
   have f3 : wo.cell? ⟨s + 1 + 1 + 1, 0, none⟩ = some (nQ m) := a0.c0; have z0 : wo.cell? ⟨s + 1 + 1 + 1, 1, none⟩ = some (.slice AO i co) := a0.c1; have d3 : wo.cell? ⟨s + 1 + 1, 0, none⟩ = some (zQ) := b0.c0; have e3 : wo.cell? ⟨s + 1 + 1, 1, none⟩ = some (eQ) := b0.c1; have i3 := b0.free 0; have j3 := b0.free 1; rw [qq (by rw [HS.len]; exact qb _)] at hR; have a2 := sK hR; clear hR a0 b0 hB; go_wp2; have hE := (v0.set 0 (nQ m)).set 1 (.slice AO i co); obtain ⟨q0, q1⟩ := hE.t2; refine bodyPost_ret (v := .agg #[nQ m, .slice AO i co]) (by simp [results, Tryz.results173, go_sem, q0, q1]) rfl ⟨AO, co, rfl, ?_, ?_⟩
   ·exact ((a2.set (by omega) _ _).set (by omega) _ _).rd
   ·exact (f0.setCell (p := ⟨s + 1 + 1, 0, none⟩) (by simp only; omega) _).setCell (p := ⟨s + 1 + 1, 1, none⟩) (by simp only; omega) _
def Td (F : FD) (m n c k d : Nat) (B D : OQ) (P Q : NQ) (w : WQ) (e : Ending) (w' : WQ) : Prop :=
 ∃ b A pc b2 A2 e0, e = .returned (.tuple #[.agg #[pQ b, nQ m, .slice B n c, .slice A P.length pc], .agg #[pQ b2, nQ m, .slice D k d, .slice A2 Q.length e0], zQ]) ∧
  GFat w' b F ∧ RdN w' A P.length pc P ∧ Below w.heap.size w w'
theorem oB (w : WQ) (F : FD) (hF : F.Ok) (A : OQ) (c : Nat) (hmod : RdN w A (modL F).length c (modL F)) (m n c' k d : Nat) (B D : OQ) (R S : LQ) (P Q : NQ) (hR : RdM w B n c' R) (hRr : Rref F.fld m R P) (hS : RdM w D k d S) (hSr : Rref F.fld m S Q) (hm0 : 0 < m) (hm9 : m <= 256) (hn9 : n <= 256) (hk9 : k <= 256) :
  cQ 172 #[Ax F A c, matV m B n c', matV m D k d] w (Td F m n c' k d B D P Q w) := by
 have j0 := sK fun (wx : WQ) (h9 : From w wx) => Mu wx F hF A c (hmod.below h9) m n c' B R P (hR.below h9) hRr hm0 hm9 hn9
 have l0 := sK fun (wx : WQ) (h9 : From w wx) => Mu wx F hF A c (hmod.below h9) m k d D S Q (hS.below h9) hSr hm0 hm9 hk9
 obtain ⟨mL, f1⟩ := xQ ((modL F).length)
 obtain ⟨M, hM⟩ := xQ (F.m + 1)
 have e1 : Ax F A c = .agg #[nQ F.p, nQ M, .slice A mL c] := by rw [hM, f1]; rfl
 unfold Sv at j0 l0
 unfold Td
 rw [e1] at j0 l0 ⊢
 unfold matV at *
 clear e1 hM f1 hmod hR hRr hS hSr
 generalize P.length = pl at *
 generalize Q.length = ql at *
 go_enter Tryz.func172, Tryz.ntmps172
 go_upto_region 1 with fail
 obtain ⟨W, hW, x1, d1, b0, b1, b2, b3, b4⟩ := mk5 w #[nQ F.p, nQ M, .slice A mL c] 24 #[nQ m, .slice B n c'] 52 #[nQ m, .slice D k d] 52 #[.pointer none, zQ, eQ, eQ] 158 #[.pointer none, zQ, eQ, eQ] 158
 rw [hW]
 clear hW
 have m0 := sK d1
 have HC : Hid (∀ wx, Below (w.heap.size + 1 + 1 + 1) W wx -> wx.cell? ⟨w.heap.size, 0, none⟩ = some (nQ F.p) ∧ wx.cell? ⟨w.heap.size, 1, none⟩ = some (nQ M) ∧ wx.cell? ⟨w.heap.size, 2, none⟩ = some (.slice A mL c) ∧ wx.cell? ⟨w.heap.size + 1, 0, none⟩ = some (nQ m) ∧ wx.cell? ⟨w.heap.size + 1, 1, none⟩ = some (.slice B n c') ∧ wx.cell? ⟨w.heap.size + 1 + 1, 0, none⟩ = some (nQ m) ∧ wx.cell? ⟨w.heap.size + 1 + 1, 1, none⟩ = some (.slice D k d)) := sK fun wx hx =>
  have h0 := b0.keep hx (by omega); have h1 := b1.keep hx (by omega); have h2 := b2.keep hx (by omega)
  ⟨h0.c0, h0.c1, h0.c2, h1.c0, h1.c1, h2.c0, h2.c1⟩
 have j1 := sK b3
 have k1 := sK b4
 clear b0 b1 b2 b3 b4 d1
 obtain ⟨p0, p1, p2, p3, p4, p5, p6⟩ := HC W (bR)
 go_upto_region 2 with (go_at_call 104; refine (j0 W m0.out).mono ?_; rintro e w2 ⟨b, A1, pc, rfl, a2, hG, a1, f0⟩; have B3 := j1.below f0; have z0 : w2.cell? ⟨w.heap.size + 1 + 1 + 1, 0, none⟩ = some (.pointer none) := B3.c0; have z1 : w2.cell? ⟨w.heap.size + 1 + 1 + 1, 1, none⟩ = some (zQ) := B3.c1; have z2 : w2.cell? ⟨w.heap.size + 1 + 1 + 1, 2, none⟩ = some (eQ) := B3.c2; have z3 : w2.cell? ⟨w.heap.size + 1 + 1 + 1, 3, none⟩ = some (eQ) := B3.c3; have y0 := B3.free 0; have y1 := B3.free 1; have y2 := B3.free 2; have y3 := B3.free 3)
 have e2 := f0.size
 have hE := (((B3.set 0 (pQ b)).set 1 (nQ m)).set 2 (.slice B n c')).set 3 (.slice A1 pl pc)
 have n0 := (((hG.set (r := w.heap.size + 1 + 1 + 1) (by omega) 0 (pQ b)).set (r := w.heap.size + 1 + 1 + 1) (by omega) 1 (nQ m)).set (r := w.heap.size + 1 + 1 + 1) (by omega) 2 (.slice B n c')).set (r := w.heap.size + 1 + 1 + 1) (by omega) 3 (.slice A1 pl pc)
 have o0 := (((a1.far (r := w.heap.size + 1 + 1 + 1) (by omega) 0 (pQ b)).far (r := w.heap.size + 1 + 1 + 1) (by omega) 1 (nQ m)).far (r := w.heap.size + 1 + 1 + 1) (by omega) 2 (.slice B n c')).far (r := w.heap.size + 1 + 1 + 1) (by omega) 3 (.slice A1 pl pc)
 have a0 : w2.grownBy ((((w2.setCell ⟨w.heap.size + 1 + 1 + 1, 0, none⟩ (pQ b)).setCell ⟨w.heap.size + 1 + 1 + 1, 1, none⟩ (nQ m)).setCell ⟨w.heap.size + 1 + 1 + 1, 2, none⟩ (.slice B n c')).setCell ⟨w.heap.size + 1 + 1 + 1, 3, none⟩ (.slice A1 pl pc)) (some (w.heap.size + 1 + 1 + 1)) := (((Ad _ _ _ _).trans (Ad _ _ _ _)).trans (Ad _ _ _ _)).trans (Ad _ _ _ _)
 obtain ⟨w3, g1⟩ : ∃ x, x = ((((w2.setCell ⟨w.heap.size + 1 + 1 + 1, 0, none⟩ (pQ b)).setCell ⟨w.heap.size + 1 + 1 + 1, 1, none⟩ (nQ m)).setCell ⟨w.heap.size + 1 + 1 + 1, 2, none⟩ (.slice B n c')).setCell ⟨w.heap.size + 1 + 1 + 1, 3, none⟩ (.slice A1 pl pc)) := ⟨_, rfl⟩
 rw [<- g1] at hE n0 o0 a0 ⊢
 simp only [qj, qo, qp] at hE
 have x0 := (k1.below f0).kept a0 (by simp)
 have i0 : Below (w.heap.size + 1 + 1 + 1) W w3 := (f0.mono (by omega)).grown a0 (by omega) (fun k hk => by simp at hk; omega)
 have HE := sK hE
 have s1 := sK n0
 have w0 := sK o0
 have l1 := sK x0
 have t0 := sK i0
 have o1 := sK (m0.trans (i0.mono (by omega)))
 have f2 := i0.size
 clear g1 a0 hE n0 o0 x0 i0 hG a1 f0 B3 z0 z1 z2 z3 y0 y1 y2 y3 p0 p1 p2 p3 p4 p5 p6
 obtain ⟨p0, p1, p2, p3, p4, p5, p6⟩ := HC w3 t0.out
 go_upto_region 4 with (go_at_call 104; refine (l0 w3 o1.out).mono ?_; rintro e w4 ⟨b', A2, e0, rfl, d2, v1, w1, d0⟩; have B4 := l1.below d0; have z0 : w4.cell? ⟨w.heap.size + 1 + 1 + 1 + 1, 0, none⟩ = some (.pointer none) := B4.c0; have z1 : w4.cell? ⟨w.heap.size + 1 + 1 + 1 + 1, 1, none⟩ = some (zQ) := B4.c1; have z2 : w4.cell? ⟨w.heap.size + 1 + 1 + 1 + 1, 2, none⟩ = some (eQ) := B4.c2; have z3 : w4.cell? ⟨w.heap.size + 1 + 1 + 1 + 1, 3, none⟩ = some (eQ) := B4.c3; have y0 := B4.free 0; have y1 := B4.free 1; have y2 := B4.free 2; have y3 := B4.free 3)
 have g2 := d0.size
 have g0 := (((B4.set 0 (pQ b')).set 1 (nQ m)).set 2 (.slice D k d)).set 3 (.slice A2 ql e0)
 have a0 : w4.grownBy ((((w4.setCell ⟨w.heap.size + 1 + 1 + 1 + 1, 0, none⟩ (pQ b')).setCell ⟨w.heap.size + 1 + 1 + 1 + 1, 1, none⟩ (nQ m)).setCell ⟨w.heap.size + 1 + 1 + 1 + 1, 2, none⟩ (.slice D k d)).setCell ⟨w.heap.size + 1 + 1 + 1 + 1, 3, none⟩ (.slice A2 ql e0)) (some (w.heap.size + 1 + 1 + 1 + 1)) := (((Ad _ _ _ _).trans (Ad _ _ _ _)).trans (Ad _ _ _ _)).trans (Ad _ _ _ _)
 obtain ⟨w5, i1⟩ : ∃ x, x = ((((w4.setCell ⟨w.heap.size + 1 + 1 + 1 + 1, 0, none⟩ (pQ b')).setCell ⟨w.heap.size + 1 + 1 + 1 + 1, 1, none⟩ (nQ m)).setCell ⟨w.heap.size + 1 + 1 + 1 + 1, 2, none⟩ (.slice D k d)).setCell ⟨w.heap.size + 1 + 1 + 1 + 1, 3, none⟩ (.slice A2 ql e0)) := ⟨_, rfl⟩
 rw [<- i1] at g0 a0 ⊢
 simp only [qj, qo, qp] at g0
 have n1 := sK ((HE.below d0).kept a0 (by simp))
 have m1 := sK g0
 have t1 := sK ((s1.below d0).kept (r := w.heap.size + 1 + 1 + 1 + 1) (by omega) a0)
 have u1 := sK ((w0.below d0).kept a0 (fun g hg e => by
  rcases w0.form with ⟨h1, _⟩ | ⟨g9, h1, h2, _⟩
  ·rw [hg] at h1; cases h1
  ·rw [hg] at h1
   simp only [qc, qd, and_true] at h1 e; omega))
 have v0 : Hid (Below (w.heap.size + 1 + 1 + 1) W w5) := sK (t0.trans ((d0.mono (by omega)).grown a0 (by omega) (fun k hk => by simp at hk; omega)))
 clear i1 a0 g0 v1 w1 d0 B4 z0 z1 z2 z3 y0 y1 y2 y3 p0 p1 p2 p3 p4 p5 p6
 obtain ⟨p0, p1, p2, p3, p4, p5, p6⟩ := HC w5 v0.out
 go_wp2
 obtain ⟨q0, q1, q2, q3⟩ := n1.t4
 obtain ⟨r0, r1, r2, r3⟩ := m1.t4
 refine bodyPost_ret (v := .tuple #[.agg #[pQ b, nQ m, .slice B n c', .slice A1 pl pc], .agg #[pQ b', nQ m, .slice D k d, .slice A2 ql e0], zQ]) (by simp [results, Tryz.results172, go_sem, q0, q1, q2, q3, r0, r1, r2, r3]) rfl ⟨b, A1, pc, b', A2, e0, rfl, t1.gf, u1.rd, m0.trans (v0.mono (by omega))⟩
end Go.Proofs.YtoalkldfhkabnaaGreatDoor
