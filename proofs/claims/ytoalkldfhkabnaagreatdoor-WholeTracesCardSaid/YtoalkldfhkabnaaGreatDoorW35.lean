/- Part of WholeTraces. -/
import Derived.Deep.RegionLaw
import Derived.Deep.Cut
import Derived.Deep.CutRange
import Derived.Test.YtoalkldfhkabnaaGreatDoorW00
import Derived.Test.YtoalkldfhkabnaaGreatDoorW07
import Derived.Test.YtoalkldfhkabnaaGreatDoorW08
import Derived.Test.YtoalkldfhkabnaaGreatDoorW10
import Derived.Test.YtoalkldfhkabnaaGreatDoorW34
set_option linter.all false
set_option maxRecDepth 10000
set_option maxHeartbeats 16000000
namespace Go.Proofs.YtoalkldfhkabnaaGreatDoor
open Go.RowKit Fq
theorem Ox {w : WQ} {base n c : Nat} {A B : OQ} {m d v : Nat} {l : NQ} (h : OwnN w base A n c l) (h1 : ∀ b, (Value.slice B m d).ownBlock = some b -> b < base) (h2 : v < base) : ∀ b i3, A = some ⟨b, i3, none⟩ -> 0 < l.length -> (Value.slice B m d).ownBlock ≠ some b ∧ ¬ (b <= v) := fun b i3 e _ => by
 rcases h.form with ⟨h3, _⟩ | ⟨g, h3, h4, _⟩
 ·rw [h3] at e; cases e
 ·rw [h3] at e
  simp only [qc, qd, and_true] at e; exact ⟨fun e2 => by have := h1 b e2; omega, by omega⟩
def Rv (m n : Nat) (K : LQ) (w : WQ) (e : Ending) (w' : WQ) : Prop :=
 ∃ B c, e = .returned (.tuple #[.agg #[nQ m, .slice B n c], zQ]) ∧ Cc w' (· < w.heap.size) B n c K ∧ From w w'
def mulR (F : FD) (S : LQ) (m k : Nat) (r : NQ) : NQ := vecA F r S m k
theorem pO (w : WQ) (F : FD) (hF : F.Ok) (Af : OQ) (cf : Nat) (hmod : RdN w Af (modL F).length cf (modL F)) (k n ca : Nat) (A : OQ) (R : LQ) (hR : RdM w A n ca R) (hM : Mat F.fld k R) (m cb : Nat) (B : OQ) (S : LQ) (hS : RdM w B k cb S) (hMS : Mat F.fld m S)
  (hk0 : 0 < k) (m0 : k <= 256) (hn9 : n <= 256) (hm0 : 0 < m) (hm9 : m <= 256) :
  cQ 148 #[Ax F Af cf, matV k A n ca, matV m B k cb] w (Rv m n (R.map (mulR F S m k)) w) := by
 obtain ⟨i1, hj, n4, o4, p4⟩ := info_parts Eg
 obtain ⟨mL, a3⟩ := xQ ((modL F).length)
 obtain ⟨M, n2⟩ := xQ (F.m + 1)
 have e1 : ∀ A9 c9, Ax F A9 c9 = .agg #[nQ F.p, nQ M, .slice A9 mL c9] := fun A9 c9 => by rw [n2, a3]; rfl
 have l1 : Hid (∀ wx bs, From w wx -> wx.cell? ⟨bs, 0, none⟩ = some (nQ k) ∧ wx.cell? ⟨bs, 1, none⟩ = some (.slice A n ca) ∧ wx.cell? ⟨bs, 2, none⟩ = some (nQ m) ∧ wx.cell? ⟨bs, 3, none⟩ = some (.slice B k cb) ∧ bs < wx.heap.size -> cQ 63 #[Ax F Af cf, .slice (sQ bs) 2 2] wx (Ga F wx)) := sK fun wx bs hx ⟨h1, h2, h3, h4, h5⟩ =>
  Hl wx F hF Af cf (hmod.below hx) bs 2 2 (by omega) ⟨by omega, by unfold maxLen; omega⟩ (fun i => if i = 0 then k else m) (fun i => if i = 0 then n else k) (fun i => if i = 0 then ca else cb) (fun i => if i = 0 then A else B) (fun i => if i = 0 then R else S)
   ⟨h5, fun i hi => by rcases (by omega : i = 0 ∨ i = 1) with rfl | rfl <;> simpa using by assumption, fun i hi => by rcases (by omega : i = 0 ∨ i = 1) with rfl | rfl <;> simpa using by assumption, fun i hi => by rcases (by omega : i = 0 ∨ i = 1) with rfl | rfl; exact hR.below hx; exact hS.below hx, fun i hi => by rcases (by omega : i = 0 ∨ i = 1) with rfl | rfl; exact ⟨m0, hn9, hM⟩; exact ⟨hm9, m0, hMS⟩⟩
 have HR := sK hR
 have f2 := sK hS
 have z4 := hR.le63
 have a5 := hR.cap
 have k4 := hR.max
 unfold maxLen at k4
 have v4 := hS.cap
 have j4 := hS.max
 unfold maxLen at j4
 rw [e1] at l1 ⊢
 unfold Ga matV at *
 clear e1 n2 a3 hmod hR hS
 go_enter Tryz.func148, Tryz.ntmps148
 go_upto_region 1 with fail
 obtain ⟨W, hW, e4, o2, b0, b1, b2, b3⟩ := mk4 w #[nQ F.p, nQ M, .slice Af mL cf] 24 #[nQ k, .slice A n ca] 52 #[nQ m, .slice B k cb] 52 #[zQ, eQ] 52
 rw [hW]
 clear hW
 obtain ⟨c0, c1, c2⟩ := b0.t3
 obtain ⟨x0, x1⟩ := b1.t2
 obtain ⟨y0, y1⟩ := b2.t2
 have H1 := sK b1
 have H2 := sK b2
 have H3 := sK b3
 have HF := sK o2
 clear b0 b1 b2 b3 o2 e4
 have i0 : Hid (Blk (W.alloc (.cells #[nQ k, .slice A n ca, nQ m, .slice B k cb] 52)) W.heap.size #[nQ k, .slice A n ca, nQ m, .slice B k cb]) := sK (Blk.new W _ 52)
 have d2 := sK (l1 _ W.heap.size (Aa (Ac W (.cells #[nQ k, .slice A n ca, nQ m, .slice B k cb] 52)) HF.out) ⟨by simpa using i0.c0, by simpa using i0.c1, by simpa using i0.c2, by simpa using i0.c3, i0.lt⟩)
 clear l1 i0
 go_upto_region 4 with (go_at_call 63; refine d2.mono ?_; rintro e w2 ⟨bg, rfl, _, x2, r2⟩)
 have l0 := Aa r2 (Ac W (.cells #[nQ k, .slice A n ca, nQ m, .slice B k cb] 52))
 have j1 := sK (Aa l0 HF.out)
 have o3 := sK x2
 have t1 := sK (H1.below l0)
 have u1 := sK (H2.below l0)
 have v1 := sK (H3.below l0)
 clear r2 l0 x2 d2 c0 c1 c2 x0 x1 y0 y1
 obtain ⟨x0, x1⟩ := t1.t2
 obtain ⟨y0, y1⟩ := u1.t2
 go_upto_region 7 with fail
 obtain ⟨V, hV, d4, n1, v0⟩ := mk1 w2 #[nQ m, eQ] 52
 rw [hV]
 clear hV
 obtain ⟨a0, o1⟩ := xQ w2.heap.size
 rw [<- o1] at v0 ⊢
 have a2 := sK o1
 have HV := sK v0
 have m3 := sK n1
 have m4 : V.cell? ⟨w.heap.size + 1, 1, none⟩ = some (.slice A n ca) := (n1.cell (p := ⟨w.heap.size + 1, 1, none⟩) t1.lt).trans x1
 clear v0 n1 d4 o1 x0 x1 y0 y1
 have j0 : Hid (∀ wx, From w2 wx -> wx.cell? ⟨w.heap.size + 1 + 1, 0, none⟩ = some (nQ m) ∧ wx.cell? ⟨w.heap.size + 1 + 1, 1, none⟩ = some (.slice B k cb)) := sK fun wx hx => by
  have h9 := u1.below hx; exact ⟨h9.c0, h9.c1⟩
 have g2 : Hid (∀ wx, From w2 wx -> ∀ Ar cr r, RdN wx Ar k cr r -> Els F r -> cQ 266 #[pQ bg, .slice Ar k cr, .slice B k cb, nQ m] wx (RetC m (mulR F S m k r) wx)) := sK fun wx hx Ar cr r hr l4 => oN wx bg F (o3.below hx) Ar k cr r hr l4 B cb S (f2.below (Aa hx j1.out)) m hMS hm0 (by omega)
 have m1 := sK HR.len
 have u3 : Hid (∀ r, r ∈ R -> (mulR F S m k r).length = m) := sK fun r hr => (Tj hF (hM r hr).2 hMS f2.len k (qb _)).1
 unfold RetC at g2
 go_upto_region 8 with fail
 clear m4
 go_loopw [38] (fun s1 wr => ∃ (i : Nat) (A9 : OQ) (c9 : Nat), i <= n ∧ s1 = nQ i ∧ Bo wr (a0 + 1) (· <= a0) A9 i c9 ((R.take i).map (mulR F S m k)) ∧ Blk wr a0 #[nQ m, .slice A9 i c9] ∧ From w2 wr) (fun s1 _ => n - (intOf s1).toNat)
 case atStart => exact ⟨0, none, 0, qe _, rfl, Bo.nil _ _ _, HV.out, m3.out⟩
 case round =>
  obtain ⟨i, A9, c9, u4, rfl, hK, g0, e0⟩ := hrel; obtain ⟨wo, rfl⟩ := xQ wr
  by_cases hi9 : i < n
  ·have t4 : (i : Int) < (n : Int) := by omega
   obtain ⟨bRo, oR, Ar, cr, rfl, r4, s2, t0⟩ := (HR.below (Aa e0 j1.out)).at hi9; have w0 : R.getD i [] ∈ R := Ap (by rw [m1.out]; exact hi9) _; have z2 : (R.getD i []).length = k := (hM _ w0).1; rw [z2] at s2 t0; have s3 := sK (hM _ w0).2; have g3 : (R.take (i + 1)).map (mulR F S m k) = (R.take i).map (mulR F S m k) ++ [mulR F S m k (R.getD i [])] := by rw [Dw R [] (by rw [m1.out]; exact hi9), qam]; rfl
   have q3 := sK g3; have w1 := sK (u3 _ w0); have q4 := sK t0; have r3 : Hid (∀ wx, From wo wx -> cQ 266 #[pQ bg, .slice Ar k cr, .slice B k cb, nQ m] wx (fun e w' => ∃ A c, e = .returned (.slice A m c) ∧ RdN w' A m c (mulR F S m k (R.getD i [])) ∧ (0 < m -> OwnN w' wx.heap.size A m c (mulR F S m k (R.getD i []))) ∧ Below wx.heap.size wx w')) := sK fun wx hx => g2 wx (Aa hx e0) Ar cr _ (t0.below hx) s3.out
   generalize mulR F S m k (R.getD i []) = L at *; have HK := sK hK; have g1 := sK g0; have k1 := sK e0; have r1 : a0 < wo.heap.size := g0.lt; have y4 : w2.heap.size <= a0 := qcq a2.symm; have s4 := e0.size; have b4 := j0 wo.drew e0.drew; have m0 : wo.cell? ⟨a0, 1, none⟩ = some (.slice A9 i c9) := g0.c1; clear hK g0 e0 g3 z2 t0 w0; go_upto_region 10 with fail
   clear s2; have a4 : ∀ q, (wo.alloc q).cell? ⟨a0, 1, none⟩ = some (.slice A9 i c9) := fun q => (g1.alloc q).c1
   go_region_law (first
     | (go_simp; go_at_call 266; refine (r3 _ (bR).drew).mono ?_; rintro e w9 ⟨A8, c8, rfl, f3, d3, h0⟩; have y2 : w9.cell? ⟨a0, 1, none⟩ = some (.slice A9 i c9) := (h0.cell (p := ⟨a0, 1, none⟩) r1).trans m0; have o0 := Aa h0 k1.drew; have c4 := j0 w9 o0; have x3 := fun q => j0 (w9.alloc q) (Aa (Ac w9 q) o0); have g4 : ∀ q, (w9.alloc q).cell? ⟨a0, 1, none⟩ = some (.slice A9 i c9) := fun q => ((Ac w9 q).cell (p := ⟨a0, 1, none⟩) (qk r1 h0.size)).trans y2)
     | (refine Mw rfl (.tmp 43) (.tmp 51) 25 rfl i1 Tryz.underlying25 hj n4 o4 p4 (a0 + 1) (· <= a0) A9 i c9 _ rfl ((HK.below (Aa h0 (bR).drew)).below (Ac w9 _)) w9.heap.size rfl A8 c8 L (by rw [w1.out]; exact (Blk.new w9 #[.slice A8 m c8] 22).c0) (by rw [w1.out]; exact f3.alloc _) (Ox (d3 hm0) (fun b hb => (HK.own b hb).2) r1) (by omega) (fun b e => by have e : b <= a0 := e; have := h0.size; simp at this ⊢; omega) (by have := h0.size; simp at this ⊢; omega) ?_; intro A7 c7 a1 l2 v2 e3 j2; have n0 := ((g1.below (Aa h0 (bR).drew)).below (Ac w9 (.cells #[.slice A8 m c8] 22))).kept v2 (fun e => (e3 a0 e).1 (qb _)); have r0 := j2 w2 (by omega) (Aa (Ac w9 _) o0); have y3 := j0 a1 r0; have z3 := fun v => j0 _ (r0.setCell (p := ⟨a0, 1, none⟩) (by show _ <= a0; omega) v); have i4 : a1.cell? ⟨a0, 1, none⟩ = some (.slice A9 i c9) := n0.c1; have f4 : a1.frozen? ⟨a0, 1, none⟩ = false := n0.free 1))
   all_goals
    have i2 := n0.set 1 (.slice A7 (i + 1) c7); have m2 := l2.grown (Ad a1 a0 1 (.slice A7 (i + 1) c7)) (fun b e => by injection e with e; show b <= a0; omega); have k2 := r0.setCell (p := ⟨a0, 1, none⟩) (by show _ <= a0; omega) (.slice A7 (i + 1) c7); have j3 := sK i2; have p3 := sK m2; have l3 := sK k2; clear i2 m2 k2 l2 v2 e3 j2 n0 r0 y3 z3 i4 f4 f3 d3 y2 o0 c4 x3 g4 a4 b4 m0; go_wp2; go_roundw
    case rel => exact ⟨i + 1, A7, c7, by omega, by go_num, by rw [q3.out]; exact p3.out, by simpa using j3.out, l3.out⟩
    case measure => simp [intOf]; omega
  ·obtain rfl : i = n := by omega
   have p2 : (R.take i).map (mulR F S m k) = R.map (mulR F S m k) := by rw [qq (by rw [m1.out]; exact qb _)]
   rw [p2] at hK; have HK := sK hK; have g1 := sK g0; have k1 := sK e0; have h3 := v1.below e0; have B3 := sK h3; have w4 := v1.lt; have x4 : w2.heap.size <= a0 := qcq a2.symm; obtain ⟨d0, d1⟩ := g0.t2; obtain ⟨z0, z1⟩ := h3.t2; obtain ⟨f0, f1⟩ := h3.u2; clear hK g0 e0 p2 h3; go_wp2; have w3 := Aa k1 j1.out; obtain ⟨Z, hZ, k3, n3, v3⟩ := Ca B3.out w3 (by omega) [nQ m, .slice A9 i c9] (by simp); simp only [putC] at hZ; rw [hZ]; clear hZ; obtain ⟨q0, q1⟩ := k3.t2; exact bodyPost_ret (v := .tuple #[.agg #[nQ m, .slice A9 i c9], zQ]) (by simp [results, Tryz.results148, go_sem, q0, q1]) rfl ⟨A9, c9, rfl, (HK.grown v3 (fun b e => by injection e with e; show b <= a0; omega)).rx.less (fun b hb => .inl (by have hb : b < w.heap.size := hb; show b <= a0; omega)), n3⟩
def selR (I r : NQ) : NQ := I.map (fun i => r.getD i 0)
theorem Vn (w : WQ) (F : FD) (hF : F.Ok) (Af : OQ) (cf : Nat) (hmod : RdN w Af (modL F).length cf (modL F)) (m n cb : Nat) (B : OQ) (R : LQ) (hR : RdM w B n cb R) (hM : Mat F.fld m R) (hm9 : m <= 256) (hn9 : n <= 256)
  (k ci : Nat) (Ai : OQ) (I : NQ) (hI : RdN w Ai k ci I) (hIm : ∀ x ∈ I, x < m) (hk0 : 0 < k) (hk9 : k <= 256) :
  cQ 146 #[Ax F Af cf, matV m B n cb, .slice Ai k ci] w (Rv k n (R.map (selR I)) w) := by
 obtain ⟨i1, hj, r4, s4, t4⟩ := info_parts Eg
 obtain ⟨i0, hi, u4, v4, x4⟩ := info_parts Bj
 obtain ⟨mL, z2⟩ := xQ ((modL F).length)
 obtain ⟨M, m2⟩ := xQ (F.m + 1)
 have e1 : ∀ A9 c9, Ax F A9 c9 = .agg #[nQ F.p, nQ M, .slice A9 mL c9] := fun A9 c9 => by rw [m2, z2]; rfl
 have k1 : Hid (∀ wx bs, From w wx -> wx.cell? ⟨bs, 0, none⟩ = some (nQ m) ∧ wx.cell? ⟨bs, 1, none⟩ = some (.slice B n cb) ∧ bs < wx.heap.size -> cQ 63 #[Ax F Af cf, .slice (sQ bs) 1 1] wx (Ga F wx)) := sK fun wx bs hx ⟨h1, h2, h5⟩ =>
  Hl wx F hF Af cf (hmod.below hx) bs 1 1 (by omega) ⟨by omega, by unfold maxLen; omega⟩ (fun _ => m) (fun _ => n) (fun _ => cb) (fun _ => B) (fun _ => R)
   ⟨h5, fun i hi => by (obtain rfl : i = 0 := (by omega); simpa using h1), fun i hi => by (obtain rfl : i = 0 := (by omega); simpa using h2), fun i hi => hR.below hx, fun i hi => ⟨hm9, hn9, hM⟩⟩
 have HR := sK hR
 have HI := sK hI
 have l1 := sK hR.len
 have r0 := sK hI.len
 have b5 := hR.cap
 have g4 := hR.max
 have c5 := hI.cap
 have h4 := hI.max
 unfold maxLen at g4 h4
 have m5 : (k : Int) <= 256 := by omega
 rw [e1] at k1 ⊢
 unfold Ga matV at *
 clear e1 m2 z2 hmod hR hI
 go_enter Tryz.func146, Tryz.ntmps146
 go_upto_region 1 with fail
 obtain ⟨W, hW, f4, n2, b0, b1, b2⟩ := mk3 w #[nQ F.p, nQ M, .slice Af mL cf] 24 #[nQ m, .slice B n cb] 52 #[zQ, eQ] 52
 rw [hW]
 clear hW
 obtain ⟨c0, c1, c2⟩ := b0.t3
 obtain ⟨x0, x1⟩ := b1.t2
 have H1 := sK b1
 have H3 := sK b2
 have HF := sK n2
 clear b0 b1 b2 n2 f4
 have t0 : Hid (Blk (W.alloc (.cells #[nQ m, .slice B n cb] 52)) W.heap.size #[nQ m, .slice B n cb]) := sK (Blk.new W _ 52)
 have d2 := sK (k1 _ W.heap.size (Aa (Ac W (.cells #[nQ m, .slice B n cb] 52)) HF.out) ⟨by simpa using t0.c0, by simpa using t0.c1, t0.lt⟩)
 clear k1 t0
 go_upto_region 4 with (go_at_call 63; refine d2.mono ?_; rintro e w2 ⟨bg, rfl, _, j4, p2⟩)
 have g1 := Aa p2 (Ac W (.cells #[nQ m, .slice B n cb] 52))
 have n0 := sK (Aa g1 HF.out)
 have v1 := sK (H1.below g1)
 have w1 := sK (H3.below g1)
 clear p2 g1 j4 d2 c0 c1 c2 x0 x1
 obtain ⟨x0, x1⟩ := v1.t2
 go_upto_region 7 with fail
 go_loopw [35] (fun r1 wr => ∃ (i : Nat), i <= k ∧ r1 = nQ i ∧ wr = w2) (fun r1 _ => k - (intOf r1).toNat)
 case atStart => exact ⟨0, qe _, rfl, rfl⟩
 case round =>
  obtain ⟨i, j5, rfl, rfl⟩ := hrel
  by_cases hi9 : i < k
  ·have i5 : (i : Int) < (k : Int) := by omega
   obtain ⟨bi, oi, rfl, _, v2⟩ := (HI.below n0.out).at hi9; have o1 : I.getD i 0 < m := hIm _ (Ap (by rw [r0.out]; exact hi9) _); generalize I.getD i 0 = x at *; have q4 : (x : Int) < (m : Int) := by omega
   have v5 : decide ((m : Int) <= (x : Int)) = false := by simp; omega
   go_wp2; go_roundw
   case rel => exact ⟨i + 1, by omega, by go_num, trivial⟩
   case measure => simp [intOf]; omega
  ·obtain rfl : i = k := by omega
   obtain ⟨w3, rfl⟩ := xQ wr; go_upto_region 13 with fail
   obtain ⟨V, hV, e4, m1, v0⟩ := mk1 w3 #[nQ i, eQ] 52; rw [hV]; clear hV; obtain ⟨a0, n1⟩ := xQ w3.heap.size; rw [<- n1] at v0 ⊢; have p5 : w3.heap.size <= a0 := qcq n1.symm; have HV := sK v0; have r3 := sK m1; have p4 : V.cell? ⟨w.heap.size + 1, 1, none⟩ = some (.slice B n cb) := (m1.cell (p := ⟨w.heap.size + 1, 1, none⟩) v1.lt).trans x1; clear v0 m1 e4 n1 x0 x1; go_upto_region 14 with fail
   clear p4
   go_loopw [55] (fun s1 wq => ∃ (j : Nat) (A9 : OQ) (c9 : Nat), j <= n ∧ s1 = nQ j ∧ Bo wq (a0 + 1) (· <= a0) A9 j c9 ((R.take j).map (selR I)) ∧ Blk wq a0 #[nQ i, .slice A9 j c9] ∧ From w3 wq) (fun s1 _ => n - (intOf s1).toNat)
   case atStart => exact ⟨0, none, 0, qe _, rfl, Bo.nil _ _ _, HV.out, r3.out⟩
   case round =>
    obtain ⟨j, A9, c9, l5, rfl, hK, m0, g0⟩ := hrel; obtain ⟨wo, rfl⟩ := xQ wr
    by_cases hj9 : j < n
    ·have k5 : (j : Int) < (n : Int) := by omega
     obtain ⟨bRo, oR, Ar, cr, rfl, z4, s2, j0⟩ := (HR.below (Aa g0 n0.out)).at hj9; have e3 : R.getD j [] ∈ R := Ap (by rw [l1.out]; exact hj9) _; have y2 : (R.getD j []).length = m := (hM _ e3).1; rw [y2] at s2 j0; have g3 : (R.take (j + 1)).map (selR I) = (R.take j).map (selR I) ++ [selR I (R.getD j [])] := by rw [Dw R [] (by rw [l1.out]; exact hj9), qam]; rfl
     have a4 := sK g3; have y3 := sK j0; have l0 : Hid ((selR I (R.getD j [])).length = i) := sK (by rw [selR, qak]; exact r0.out); have q5 := j0.cap; have m4 := j0.max; unfold maxLen at m4; have HQ : Hid (∀ y, (R.getD j []).getD y 0 < 1000000) := sK j0.sm.at; have v3 : Hid (∀ b, (Value.slice A9 j c9).ownBlock = some b -> b < wo.heap.size) := sK fun b e => (hK.own b e).2
     have HK := sK hK; have y1 := sK m0; have o0 := sK g0; have o5 : a0 < wo.heap.size := m0.lt; have f5 := g0.size; clear hK m0 g0 g3 y2 j0 e3; go_upto_region 17 with (at_make; refine Bd rfl _ _ _ rfl i0 Tryz.underlying22 hi u4 v4 x4 _ _ i rfl rfl (by omega) ?_; intro w4 d3 r2 n4)
     clear s2 n4; obtain ⟨bo, j1⟩ := xQ wo.heap.size; have a5 : wo.heap.size <= bo := qcq j1.symm; have x3 : Hid (OwnN w4 wo.heap.size (sQ bo) i i (List.replicate i 0)) := sK (by rw [j1]; exact d3); have l3 := sK r2; rw [<- j1]; clear d3 r2 j1; go_upto_region 18 with fail
     go_loopw [64] (fun t1 wq => ∃ (t : Nat), t <= i ∧ t1 = nQ t ∧ OwnN wq wo.heap.size (sQ bo) i i ((selR I (R.getD j [])).take t ++ List.replicate (i - t) 0) ∧ From wo wq) (fun t1 _ => i - (intOf t1).toNat)
     case atStart => exact ⟨0, qe _, rfl, by simpa using x3.out, l3.out⟩
     case round =>
      obtain ⟨t, t5, rfl, h0, e0⟩ := hrel
      by_cases ht9 : t < i
      ·have u5 : (t : Int) < (i : Int) := by omega
       obtain ⟨bi, oi, rfl, _, v2⟩ := (HI.below (Aa (Aa e0 o0.out) n0.out)).at ht9; have o1 : I.getD t 0 < m := hIm _ (Ap (by rw [r0.out]; exact ht9) _); have j3 : (selR I (R.getD j [])).getD t 0 = (R.getD j []).getD (I.getD t 0) 0 := by simp [selR, qa, show t < I.length by rw [r0.out]; exact ht9]
       have e2 := sK j3; obtain ⟨x, hx⟩ := xQ (I.getD t 0); rw [<- hx] at v2 o1 e2; obtain ⟨bq, oq, rfl, _, d5⟩ := (y3.below e0).at o1; have q4 : (x : Int) < (m : Int) := by omega
       have o4 := HQ x; have f3 := Fd (0 : Nat) (pre := (selR I (R.getD j [])).take t) (n := i) (k := t) (by rw [Sq, l0.out]; omega) ht9 ((R.getD j []).getD x 0); have i3 : (selR I (R.getD j [])).take (t + 1) = (selR I (R.getD j [])).take t ++ [(R.getD j []).getD x 0] := by rw [Dw _ 0 (by rw [l0.out]; exact ht9), e2.out]
       have z3 := sK f3; have b4 := sK i3; have a3 := h0.set t o4; have w0 := sK a3; have q3 := sK e0; have e5 := h0.cell ht9; have g5 := h0.free t; clear f3 i3 a3 hx j3 h0 e0; generalize (R.getD j []).getD x 0 = y at *; go_wp2; go_roundw
       case rel => exact ⟨t + 1, by omega, by go_num, by rw [b4.out, <- z3.out]; exact w0.out, q3.setCell (p := ⟨bo, t, none⟩) (by show _ <= bo; omega) _⟩
       case measure => simp [intOf]; omega
      ·obtain rfl : t = i := by omega
       rw [qaa, qao, qas, qq (by rw [l0.out]; exact qb _)] at h0; obtain ⟨w5, rfl⟩ := xQ wr; generalize selR I (R.getD j []) = L at *; have w0 := sK h0; have a1 := y1.below e0; have m3 := sK a1; have a2 := sK (HK.below e0); have p3 := sK (Aa e0 o0.out); have r5 := e0.size; have l4 : w5.cell? ⟨a0, 1, none⟩ = some (.slice A9 j c9) := a1.c1; have y4 := sK e0; have s5 : a0 < w5.heap.size := a1.lt; clear h0 a1 e0 HK y1; go_upto_region 23 with (refine Br rfl (.tmp 78) (.tmp 80) 25 rfl i1 Tryz.underlying25 hj r4 s4 t4 (a0 + 1) (· <= a0) A9 j c9 _ rfl (a2.below (Ac w5 _)) w5.heap.size rfl (sQ bo) t L (by rw [l0.out]; exact (Blk.new w5 #[.slice (sQ bo) t t] 22).c0) (by rw [l0.out]; exact w0.rd.alloc _) (Ox w0 (fun b hb => by have := (a2.own b hb); have h9 := v3 b hb; omega) (by omega)) (by omega) (fun b e => by have e : b <= a0 := e; simp; omega) (by simp; omega) ?_; intro A7 c7 u1 k2 x2 c3 g2; have y0 := (m3.below (Ac w5 (.cells #[.slice (sQ bo) t t] 22))).kept x2 (fun e => (c3 a0 e).1 (qb _)); have k4 : u1.cell? ⟨a0, 1, none⟩ = some (.slice A9 j c9) := y0.c1; have i4 : u1.frozen? ⟨a0, 1, none⟩ = false := y0.free 1)
       have j2 := g2 w3 (by omega) (Aa (Ac w5 _) p3.out); have f2 := y0.set 1 (.slice A7 (j + 1) c7); have l2 := k2.grown (Ad u1 a0 1 (.slice A7 (j + 1) c7)) (fun b e => by injection e with e; show b <= a0; omega); have i2 := j2.setCell (p := ⟨a0, 1, none⟩) (by show _ <= a0; omega) (.slice A7 (j + 1) c7); have k3 := sK f2; have u3 := sK l2; have o3 := sK i2; clear f2 l2 i2 k2 x2 c3 g2 y0 j2 k4 i4 l4; go_wp2; go_roundw
       case rel => exact ⟨j + 1, A7, c7, by omega, by go_num, by rw [a4.out]; exact u3.out, by simpa using k3.out, o3.out⟩
       case measure => simp [intOf]; omega
    ·obtain rfl : j = n := by omega
     have o2 : (R.take j).map (selR I) = R.map (selR I) := by rw [qq (by rw [l1.out]; exact qb _)]
     rw [o2] at hK; have HK := sK hK; have o0 := sK g0; have h3 := w1.below g0; have B3 := sK h3; have n5 := w1.lt; obtain ⟨d0, d1⟩ := m0.t2; obtain ⟨z0, z1⟩ := h3.t2; obtain ⟨f0, f1⟩ := h3.u2; clear hK m0 g0 o2 h3; go_wp2; have d4 := Aa o0 n0.out; obtain ⟨Z, hZ, n3, s3, c4⟩ := Ca B3.out d4 (by omega) [nQ i, .slice A9 j c9] (by simp); simp only [putC] at hZ; rw [hZ]; clear hZ; obtain ⟨q0, q1⟩ := n3.t2; exact bodyPost_ret (v := .tuple #[.agg #[nQ i, .slice A9 j c9], zQ]) (by simp [results, Tryz.results146, go_sem, q0, q1]) rfl ⟨A9, c9, rfl, (HK.grown c4 (fun b e => by injection e with e; show b <= a0; omega)).rx.less (fun b hb => .inl (by have hb : b < w.heap.size := hb; show b <= a0; omega)), s3⟩
def gjr (F : FD) (c : Nat) : Nat -> LQ × LQ -> LQ × LQ
 | 0, st => st
 | i + 1, st =>
  if i = c then gjr F c i st else if ent (gjr F c i st).1 i c = 0 then gjr F c i st else
   ((gjr F c i st).1.set i (addRow F.fld ((gjr F c i st).1.getD i []) (F.neg (ent (gjr F c i st).1 i c)) ((gjr F c i st).1.getD c [])),
   (gjr F c i st).2.set i (addRow F.fld ((gjr F c i st).2.getD i []) (F.neg (ent (gjr F c i st).1 i c)) ((gjr F c i st).2.getD c [])))
def gj (F : FD) (n : Nat) : Nat -> LQ × LQ -> LQ × LQ
 | 0, st => st
 | c + 1, st => gjr F c n (gj F n c st)
def GjOk (F : FD) (n : Nat) (st : LQ × LQ) : Prop := st.1.length = n ∧ st.2.length = n ∧ Mat F.fld n st.1 ∧ Mat F.fld n st.2
theorem cY {F : Fld} {n : Nat} {R : LQ} (h : Mat F n R) {i : Nat} {l : NQ} (h1 : l.length = n) (h2 : ∀ x ∈ l, x < F.q) : Mat F n (R.set i l) := fun r hr => by
 rcases Oq hr with h3 | h3
 ·exact h r h3
 ·rw [h3]; exact ⟨h1, h2⟩
theorem aQ {F : FD} (hF : F.Ok) {n c : Nat} (hc : c < n) {st : LQ × LQ} (h : GjOk F n st) : ∀ i, i <= n -> GjOk F n (gjr F c i st)
 | 0, _ => h
 | i + 1, hi => by
  obtain ⟨h1, h2, h3, h4⟩ := aQ hF hc h i (by omega); unfold gjr; split
  ·exact ⟨h1, h2, h3, h4⟩
  ·split
   ·exact ⟨h1, h2, h3, h4⟩
   ·have a0 : F.neg (ent (gjr F c i st).1 i c) < F.fld.q := hF.neg_lt _
    refine ⟨by simpa using h1, by simpa using h2, cY h3 ?_ ?_, cY h4 ?_ ?_⟩
    ·exact Bv (h3.len (by omega)) (h3.len (by omega))
    ·exact Gf hF.fldOk a0 (h3.rowLt (by omega)) (h3.rowLt (by omega))
    ·exact Bv (h4.len (by omega)) (h4.len (by omega))
    ·exact Gf hF.fldOk a0 (h4.rowLt (by omega)) (h4.rowLt (by omega))
theorem dD {F : FD} (hF : F.Ok) {n : Nat} {st : LQ × LQ} (h : GjOk F n st) : ∀ c, c <= n -> GjOk F n (gj F n c st)
 | 0, _ => h
 | c + 1, hc => aQ hF (by omega) (dD hF h c (by omega)) n (qb _)
theorem fZ (w : WQ) (g h n c c' br ba c0 c1 c2 c3 : Nat) (T U : Ending -> WQ -> Prop) (hn : 0 < n) (h1 : w.cell? ⟨br, 0, none⟩ = some (.slice (sQ g) n c))
  (hc : cQ 179 #[.slice (sQ g) n c, pQ c0, pQ c1, pQ c2, pQ c3] w T)
  (h2 : ∀ e w', T e w' -> (∃ v, e = .returned v) ∧ w'.cell? ⟨ba, 0, none⟩ = some (.slice (sQ h) n c') ∧ cQ 179 #[.slice (sQ h) n c', pQ c0, pQ c1, pQ c2, pQ c3] w' U)
  (h3 : ∀ e w', U e w' -> (∃ v, e = .returned v)) :
  cQ 175 #[.func (Fn.func 179) #[] #[pQ c0, pQ c1, pQ c2, pQ c3], pQ br, pQ ba] w (fun e w' => (∃ v, e = .returned v) ∧ ∃ e0, U e0 w') := by
 have HC := sK hc
 have H2 := sK h2
 have H3 := sK h3
 clear hc h2 h3
 have b0 : (0 : Int) < (n : Int) := by omega
 go_enter Tryz.func175, Tryz.ntmps175
 go_upto_region 1 with (go_at_call 179; refine HC.mono ?_; intro e w' hT; obtain ⟨⟨v, rfl⟩, hb, hU⟩ := H2 _ _ hT)
 have HU := sK hU
 clear hU hT
 go_wp2_with (go_at_call 179; refine HU.mono ?_; intro e w4 hT; obtain ⟨v4, rfl⟩ := H3 _ _ hT)
 go_end0
 exact ⟨⟨_, rfl⟩, _, hT⟩
end Go.Proofs.YtoalkldfhkabnaaGreatDoor
