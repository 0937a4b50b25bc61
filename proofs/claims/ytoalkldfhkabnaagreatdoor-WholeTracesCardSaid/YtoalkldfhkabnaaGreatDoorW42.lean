/- Part of WholeTraces. -/
import Derived.Test.YtoalkldfhkabnaaGreatDoorW00
import Derived.Test.YtoalkldfhkabnaaGreatDoorW10
import Derived.Test.YtoalkldfhkabnaaGreatDoorW27
import Derived.Test.YtoalkldfhkabnaaGreatDoorW31
import Derived.Test.YtoalkldfhkabnaaGreatDoorW38
import Derived.Test.YtoalkldfhkabnaaGreatDoorW41
set_option linter.all false
set_option maxRecDepth 10000
set_option maxHeartbeats 16000000
namespace Go.Proofs.YtoalkldfhkabnaaGreatDoor
open Go.RowKit Fq
theorem rX (w : WQ) (bt n : Nat) (ft : List UInt8 -> Option Value) (D : List UInt8 -> Prop) (hT : TabI w bt n ft D True) (g1 c1 : Nat) (hg1 : RowE w g1 1 c1 num2) : cQ 141 #[.agg #[.map (some bt)], Cw bGf g1 1 c1, .int .u8 70] w (Ah (.tuple #[.agg gfL.toArray, zQ]) w) := by
 have HM : Hid (∀ wx, From w wx -> cQ 93 #[.agg #[.map (some bt)], Cw bGf g1 1 c1, .bool true] wx (Ah (.tuple #[.agg gfL.toArray, zQ]) wx)) := sK fun wx h => oT wx bt n ft D (hT.below h) g1 c1 (hg1.below h)
 unfold Ah at *
 unfold gfL at *
 obtain ⟨t, ht⟩ := xQ bGf
 rw [<- ht] at HM ⊢
 clear ht hT hg1
 unfold Cw at *
 go_enter Tryz.func141, Tryz.ntmps141
 go_upto_region 1 with fail
 obtain ⟨W, hW, j3, z1, b0, b1, b2⟩ := mk3 w #[.map (some bt)] 137 #[.int .i64 3, .string t, zQ, eQ, .slice (sQ g1) 1 c1] 40 #[zQ, zQ, eQ, zQ, zQ, eQ, zQ, eQ, zQ, eQ] 84
 rw [hW]
 clear hW
 have k0 := b0.t1
 obtain ⟨x0, x1, x2, x3, x4⟩ := b1.t5
 have HB := sK b2
 have HF := sK z1
 clear b0 b1 b2 z1 j3
 go_wp2_with (go_at_call 93; refine (HM _ HF.out).mono ?_; rintro e w7 ⟨rfl, d2⟩; have Y7 := HB.below d2; have y0 := Y7.c0; have u0 := Y7.free 0; have y1 := Y7.c1; have u1 := Y7.free 1; have y2 := Y7.c2; have u2 := Y7.free 2; have y3 := Y7.c3; have u3 := Y7.free 3; have y4 := Y7.c4; have u4 := Y7.free 4; have y5 := Y7.c5; have u5 := Y7.free 5; have y6 := Y7.c6; have u6 := Y7.free 6; have y7 := Y7.c7; have u7 := Y7.free 7; have y8 := Y7.c8; have u8 := Y7.free 8; have y9 := Y7.c9; have u9 := Y7.free 9)
 obtain ⟨Z, hZ, j2, n2, p4⟩ := Ca Y7 (Aa d2 HF.out) (by omega) [.int .i64 2, .int .i64 1, eQ, zQ, zQ, eQ, zQ, eQ, zQ, eQ] (by simp)
 simp only [putC] at hZ
 rw [hZ]
 clear hZ
 obtain ⟨q0, q1, q2, q3, q4, q5, q6, q7, q8, q9⟩ := j2.t10
 exact bodyPost_ret (v := .tuple #[.agg #[.int .i64 2, .int .i64 1, eQ, zQ, zQ, eQ, zQ, eQ, zQ, eQ], zQ]) (by simp [results, Tryz.results141, go_sem, q0, q1, q2, q3, q4, q5, q6, q7, q8, q9]) rfl ⟨rfl, n2⟩
theorem jR (w : WQ) (N : Nat) (K : LQ) (HC : ∀ wx, From w wx -> cQ 198 #[f2V, .int .i64 3] wx (Fz N K wx)) (bt n : Nat) (ft : List UInt8 -> Option Value) (D : List UInt8 -> Prop) (hT : TabI w bt n ft D True) (g0 c0 g1 c1 : Nat) (hg0 : RowE w g0 2 c0 (gfV g1 c1 ++ num3)) (hg1 : RowE w g1 1 c1 num2) : cQ 93 #[.agg #[.map (some bt)], Cw bHam g0 2 c0, .bool false] w (RetV N K w) := by
 have e8 := jU
 have g8 := Bz
 have h8 := Du
 have t7 := hg0.cap
 have o7 := hg0.max
 unfold maxLen at o7
 have o2 : Hid (∀ wx, From w wx -> cQ 140 #[.agg #[.map (some bt)], Cw bHam g0 2 c0, .bool false] wx (Ia wx)) := sK fun wx h => pE wx bt n ft D (hT.below h) g0 c0
 have r5 : Hid (∀ wx, cQ 141 #[.agg #[.map (some bt)], .agg #[.int .i64 1, .string { data := #[] }, .int .i64 3, eQ, eQ], .int .u8 78] wx (Ah (.tuple #[.agg #[zQ, zQ, eQ, zQ, zQ, eQ, zQ, eQ, .int .i64 3, eQ], zQ]) wx)) := sK fun wx => dL wx bt 3 (by omega)
 have m3 : Hid (∀ wx, From w wx -> cQ 141 #[.agg #[.map (some bt)], Cw bGf g1 1 c1, .int .u8 70] wx (Ah (.tuple #[.agg #[.int .i64 2, .int .i64 1, eQ, zQ, zQ, eQ, zQ, eQ, zQ, eQ], zQ]) wx)) := sK fun wx h => rX wx bt n ft D (hT.below h) g1 c1 (hg1.below h)
 have w3 : Hid (∀ wx, From w wx -> ∀ g b1 b2, Blk wx g #[.int .i64 2, .int .i64 1, eQ, zQ, zQ, eQ, zQ, eQ, zQ, eQ, zQ, zQ, eQ, zQ, zQ, eQ, zQ, eQ, .int .i64 3, eQ] -> An wx b1 236 #[.func (Fn.func 287) #[] #[pQ b2]] -> An wx b2 234 #[.func (Fn.func 198) #[] #[]] -> cQ 289 #[.slice (sQ g) 2 2, pQ b1] wx (RetV N K wx)) := sK fun wx h g b1 b2 h1 h2 h3 => gS wx N K (fun wy hy => HC wy (Aa hy h)) g b1 b2 [.int .i64 2, .int .i64 1, eQ, zQ, zQ, eQ, zQ, eQ, zQ, eQ, zQ, zQ, eQ, zQ, zQ, eQ, zQ, eQ, .int .i64 3, eQ] rfl rfl rfl h1 h2 h3
 have i0 := sK hg0
 unfold Ia at o2
 unfold Ah at *
 unfold RetV Py at w3 ⊢
 obtain ⟨s, hs⟩ := xQ bHam
 obtain ⟨t, ht⟩ := xQ bGf
 rw [<- hs] at o2 ⊢
 unfold gfV at i0
 rw [<- ht] at m3 i0
 clear hs ht hT hg0 hg1 HC
 unfold Cw at *
 go_enter Tryz.func93, Tryz.ntmps93
 go_upto_region 1 with fail
 obtain ⟨W, hW, j3, z1, g3, i3, t4⟩ := mk3 w #[.map (some bt)] 137 #[.int .i64 3, .string s, zQ, eQ, .slice (sQ g0) 2 c0] 40 #[zQ, zQ, eQ, zQ, zQ, eQ, zQ, eQ, zQ, eQ] 84
 rw [hW]
 clear hW
 have k0 := g3.t1
 obtain ⟨x0, x1, x2, x3, x4⟩ := i3.t5
 have a3 := sK g3
 have i2 := sK i3
 have d3 := sK t4
 have HF := sK z1
 clear g3 i3 t4 z1 j3
 go_upto_region 2 with (go_at_call 140; refine (o2 _ HF.out).mono ?_; rintro e w2 ⟨b1, b2, rfl, j1, m1⟩)
 obtain ⟨W3, z4, d7, i1, e3⟩ := mk1 w2 #[.string { data := #[70, 78] }, .func (Fn.func 289) #[] #[pQ b1], .func (Fn.func 199) #[] #[]] 189
 rw [z4]
 clear z4
 have a6 : Hid (w.heap.size + 1 + 1 < W3.heap.size ∧ w2.heap.size < W3.heap.size ∧ b1 < w2.heap.size ∧ b2 < w2.heap.size) := sK ⟨by have := d3.lt; have := m1.size; omega, by omega, (qg.1 j1.1).1, (qg.1 j1.2).1⟩
 have HR := sK e3
 have x5 := sK (Aa (Aa i1 m1) HF.out)
 have k2 := sK (⟨j1.1.from i1, j1.2.from i1⟩ : An W3 b1 236 #[.func (Fn.func 287) #[] #[pQ b2]] ∧ An W3 b2 234 #[.func (Fn.func 198) #[] #[]])
 have o3 := sK (Aa i1 m1)
 have a2 := i2.below (Aa i1 m1)
 have e5 := a3.below (Aa i1 m1)
 have p0 := e5.t1
 obtain ⟨x0, x1, x2, x3, x4⟩ := a2.t5
 obtain ⟨r0, r1, r2⟩ := e3.t3
 clear e3 i1 m1 j1 d7 k0 e5 a2
 go_upto_region 5 with fail
 obtain ⟨W4, a5, e7, w1, s4⟩ := mk1 W3 #[zQ, zQ, eQ, zQ, zQ, eQ, zQ, eQ, zQ, eQ, zQ, zQ, eQ, zQ, zQ, eQ, zQ, eQ, zQ, eQ] 84
 rw [a5]
 clear a5
 have n1 := sK (Aa w1 o3.out)
 have k1 := sK (Aa n1 HF.out)
 have l2 := sK (⟨k2.out.1.from w1, k2.out.2.from w1⟩ : An W4 b1 236 #[.func (Fn.func 287) #[] #[pQ b2]] ∧ An W4 b2 234 #[.func (Fn.func 198) #[] #[]])
 have z3 := sK (HR.below w1)
 have t2 := sK s4
 have e4 := sK (a3.below n1.out)
 have g4 := e4
 have k4 := sK (i2.below n1.out)
 have m4 := sK (d3.below n1.out)
 have a2 := i2.below n1.out
 clear p0 x0 x1 x2 x3 x4 r0 r1 r2 w1 e7 s4 HR k2 o3 x5 e4 a3 i2 d3
 obtain ⟨x0, x1, x2, x3, x4⟩ := a2.t5
 have r0 := (i0.below k1.out).cells 0 _ rfl
 have r1 := (i0.below k1.out).cells 1 _ rfl
 have r2 := (i0.below k1.out).cells 2 _ rfl
 have r3 := (i0.below k1.out).cells 3 _ rfl
 have r4 := (i0.below k1.out).cells 4 _ rfl
 obtain ⟨x7, a8, b8, d8⟩ := a6.out
 generalize W3.heap.size = gv at *
 go_upto_region 6 with fail
 clear x0 x1 x2 x3 x4 a2
 refine wp_loop_rounds 3 ?_
 rw [rounds_succ]
 go_upto_region 8 with fail
 obtain ⟨W5, b5, g7, a1, o1⟩ := mk1 W4 #[.int .i64 3, .string t, zQ, eQ, .slice (sQ g1) 1 c1] 40
 rw [b5]
 clear b5
 have m7 := t2.lt
 have i4 := sK (g4.below a1)
 have s5 := sK (⟨l2.out.1.from a1, l2.out.2.from a1⟩ : An W5 b1 236 #[.func (Fn.func 287) #[] #[pQ b2]] ∧ An W5 b2 234 #[.func (Fn.func 198) #[] #[]])
 have g6 := sK (t2.below a1)
 have b4 := sK (z3.below a1)
 have i6 := sK (k4.below a1)
 have k6 := sK (m4.below a1)
 have s3 := sK (Aa a1 k1.out)
 have p2 : Hid (∀ wx, From W5 wx -> wx.cell? ⟨w.heap.size, 0, none⟩ = some (.map (some bt)) ∧ (wx.cell? ⟨W4.heap.size, 0, none⟩ = some (.int .i64 3) ∧ wx.cell? ⟨W4.heap.size, 1, none⟩ = some (.string t) ∧ wx.cell? ⟨W4.heap.size, 2, none⟩ = some (zQ) ∧ wx.cell? ⟨W4.heap.size, 3, none⟩ = some (eQ) ∧ wx.cell? ⟨W4.heap.size, 4, none⟩ = some (.slice (sQ g1) 1 c1)) ∧ wx.cell? ⟨w2.heap.size, 0, none⟩ = some (.string { data := #[70, 78] })) := sK fun wx hx => by
  have h0 := i4.below hx; have h1 := o1.below hx; have h2 := b4.below hx; exact ⟨h0.c0, ⟨h1.c0, h1.c1, h1.c2, h1.c3, h1.c4⟩, h2.c0⟩
 clear a1 g7 o1 r0 r1 r2 r3 r4 g4 l2 t2 z3 k4 m4
 refine wpL 13 60 [(11, 9, 36)] [.v (.slice (sQ gv) 2 2), .v (zQ), .v (.agg #[.map (some bt)]), .v (.agg #[.int .i64 3, .string t, zQ, eQ, .slice (sQ g1) 1 c1]), .v (pQ w2.heap.size), .v (.string { data := #[70, 78] }), .v (zQ), .v (.int .u8 70), .v (.tuple #[.agg #[.int .i64 2, .int .i64 1, eQ, zQ, zQ, eQ, zQ, eQ, zQ, eQ], zQ]), .v (.tuple #[.agg #[.int .i64 2, .int .i64 1, eQ, zQ, zQ, eQ, zQ, eQ, zQ, eQ], zQ]), .v (.agg #[.int .i64 2, .int .i64 1, eQ, zQ, zQ, eQ, zQ, eQ, zQ, eQ]), .v (zQ), .v (pQ gv)] W5 (by kernel_rfl) (by kernel_rfl) (by kernel_rfl) (by kernel_rfl) rfl ((From.refl W5).drew) (fun x g2 => ?_) (fun _ _ d9 _ _ h => by cases d9 <;> exact h) ?_
 ·simp only [qx, Kq, or_false] at g2
  rcases g2 with rfl
  ·intro a9 o9 v9 wx ho hx hv he
   obtain rfl := Aq ho; obtain rfl : v9 = _ := (hv : (IsV (.tuple #[.agg #[.int .i64 2, .int .i64 1, eQ, zQ, zQ, eQ, zQ, eQ, zQ, eQ], zQ])) v9 wx)
   exact ⟨zQ, Or.inl ⟨rfl, fun w9 => by simp only [execOp, he]; rfl⟩, rfl⟩
 simp only [Tk]
 iterate 13 (refine .z (fun wx hx _ hK => by first | (go_simp; exact Kz hK) | (have e2 := (p2 wx hx).1; go_simp; exact Kz hK) | (obtain ⟨e2, j1, i7, j7, k7⟩ := (p2 wx hx).2.1; go_simp; exact Kz hK) | (have e2 := (p2 wx hx).2.2; go_simp; exact Kz hK) | (go_simp; refine (m3 wx (Aa hx s3.out)).mono ?_; rintro e w' ⟨rfl, k3⟩; exact hK.out _ _ rfl k3)) ?_; simp only [Pt])
 refine .nil fun w6 d0 _ => ?_
 have a0 := g6.below d0
 have m0 := Aa d0 s3.out
 have o0 := i4.below d0
 have t0 := i6.below d0
 have w0 := k6.below d0
 have n0 := b4.below d0
 have e1 := s5.out
 have j0 := e1.1.from d0
 have l0 := e1.2.from d0
 obtain ⟨v0, v1, v2, v3, v4, v5, v6, v7, v8, v9⟩ := a0.t10
 obtain ⟨f0, f1, f2, f3, f4, f5, f6, f7, f8, f9⟩ := a0.u10
 obtain ⟨gk, l3⟩ : ∃ gk : Nat × Nat, gk = (0, 0) := ⟨_, rfl⟩
 have a0 := sK a0
 have m0 := sK m0
 have o0 := sK o0
 have t0 := sK t0
 have w0 := sK w0
 have n0 := sK n0
 have j0 := sK j0
 have l0 := sK l0
 clear d0 e1 gk l3
 go_upto_region 9 with fail
 obtain ⟨Z6, hZ, z0, s1, e0⟩ := Xi a0 m0 (by omega) 0 [.int .i64 2, .int .i64 1, eQ, zQ, zQ, eQ, zQ, eQ, zQ, eQ] (by simp)
 simp only [putC] at hZ
 rw [hZ]
 clear hZ
 replace z0 : Blk Z6 gv #[.int .i64 2, .int .i64 1, eQ, zQ, zQ, eQ, zQ, eQ, zQ, eQ, zQ, zQ, eQ, zQ, zQ, eQ, zQ, eQ, zQ, eQ] := z0
 have z2 := sK z0
 have l1 := sK s1
 have h4 := sK (o0.kept e0 (by simp; omega))
 have l4 := sK (t0.kept e0 (by simp; omega))
 have n4 := sK (w0.kept e0 (by simp; omega))
 have a4 := sK (n0.kept e0 (by simp; omega))
 have m2 : Hid (An Z6 b1 236 #[.func (Fn.func 287) #[] #[pQ b2]] ∧ An Z6 b2 234 #[.func (Fn.func 198) #[] #[]]) := sK ⟨(e0.block b1 (qg.1 j0.out).1 (by simp; omega)).trans j0.out, (e0.block b2 (qg.1 l0.out).1 (by simp; omega)).trans l0.out⟩
 clear v0 f0 v1 f1 v2 f2 v3 f3 v4 f4 v5 f5 v6 f6 v7 f7 v8 f8 v9 f9 z0 s1 e0 a0 m0 o0 t0 w0 n0 j0 l0
 go_wp2
 rw [rounds_succ]
 have r0 := (i0.below l1.out).cells 5 _ rfl
 have r1 := (i0.below l1.out).cells 6 _ rfl
 have r2 := (i0.below l1.out).cells 7 _ rfl
 have r3 := (i0.below l1.out).cells 8 _ rfl
 have r4 := (i0.below l1.out).cells 9 _ rfl
 go_upto_region 8 with fail
 obtain ⟨W7, d5, h7, d1, o1⟩ := mk1 Z6 #[.int .i64 1, .string { data := #[] }, .int .i64 3, eQ, eQ] 40
 rw [d5]
 clear d5
 have m7 := z2.lt
 have j4 := sK (h4.below d1)
 have w5 := sK (⟨m2.out.1.from d1, m2.out.2.from d1⟩ : An W7 b1 236 #[.func (Fn.func 287) #[] #[pQ b2]] ∧ An W7 b2 234 #[.func (Fn.func 198) #[] #[]])
 have h6 := sK (z2.below d1)
 have d4 := sK (a4.below d1)
 have j6 := sK (l4.below d1)
 have l6 := sK (n4.below d1)
 have z5 := sK (Aa d1 l1.out)
 have s2 : Hid (∀ wx, From W7 wx -> wx.cell? ⟨w.heap.size, 0, none⟩ = some (.map (some bt)) ∧ (wx.cell? ⟨Z6.heap.size, 0, none⟩ = some (.int .i64 1) ∧ wx.cell? ⟨Z6.heap.size, 1, none⟩ = some (.string { data := #[] }) ∧ wx.cell? ⟨Z6.heap.size, 2, none⟩ = some (.int .i64 3) ∧ wx.cell? ⟨Z6.heap.size, 3, none⟩ = some (eQ) ∧ wx.cell? ⟨Z6.heap.size, 4, none⟩ = some (eQ)) ∧ wx.cell? ⟨w2.heap.size, 0, none⟩ = some (.string { data := #[70, 78] })) := sK fun wx hx => by
  have h0 := j4.below hx; have h1 := o1.below hx; have h2 := d4.below hx; exact ⟨h0.c0, ⟨h1.c0, h1.c1, h1.c2, h1.c3, h1.c4⟩, h2.c0⟩
 clear d1 h7 o1 r0 r1 r2 r3 r4 h4 m2 z2 a4 l4 n4
 refine wpL 13 60 [(11, 9, 36)] [.v (.slice (sQ gv) 2 2), .v (.int .i64 1), .v (.agg #[.map (some bt)]), .v (.agg #[.int .i64 1, .string { data := #[] }, .int .i64 3, eQ, eQ]), .v (pQ w2.heap.size), .v (.string { data := #[70, 78] }), .v (.int .i64 1), .v (.int .u8 78), .v (.tuple #[.agg #[zQ, zQ, eQ, zQ, zQ, eQ, zQ, eQ, .int .i64 3, eQ], zQ]), .v (.tuple #[.agg #[zQ, zQ, eQ, zQ, zQ, eQ, zQ, eQ, .int .i64 3, eQ], zQ]), .v (.agg #[zQ, zQ, eQ, zQ, zQ, eQ, zQ, eQ, .int .i64 3, eQ]), .v (zQ), .v (.pointer (some ⟨gv, 10, none⟩))] W7 (by kernel_rfl) (by kernel_rfl) (by kernel_rfl) (by kernel_rfl) rfl ((From.refl W7).drew) (fun x g2 => ?_) (fun _ _ d9 _ _ h => by cases d9 <;> exact h) ?_
 ·simp only [qx, Kq, or_false] at g2
  rcases g2 with rfl
  ·intro a9 o9 v9 wx ho hx hv he
   obtain rfl := Aq ho; obtain rfl : v9 = _ := (hv : (IsV (.tuple #[.agg #[zQ, zQ, eQ, zQ, zQ, eQ, zQ, eQ, .int .i64 3, eQ], zQ])) v9 wx)
   exact ⟨zQ, Or.inl ⟨rfl, fun w9 => by simp only [execOp, he]; rfl⟩, rfl⟩
 simp only [Tk]
 iterate 13 (refine .z (fun wx hx _ hK => by first | (go_simp; exact Kz hK) | (have e2 := (s2 wx hx).1; go_simp; exact Kz hK) | (obtain ⟨e2, j1, i7, j7, k7⟩ := (s2 wx hx).2.1; go_simp; exact Kz hK) | (have e2 := (s2 wx hx).2.2; go_simp; exact Kz hK) | (go_simp; refine (r5 wx).mono ?_; rintro e w' ⟨rfl, k3⟩; exact hK.out _ _ rfl k3)) ?_; simp only [Pt])
 refine .nil fun w8 d0 _ => ?_
 have a0 := h6.below d0
 have m0 := Aa d0 z5.out
 have o0 := j4.below d0
 have t0 := j6.below d0
 have w0 := l6.below d0
 have n0 := d4.below d0
 have e1 := w5.out
 have j0 := e1.1.from d0
 have l0 := e1.2.from d0
 have g5 := a0.cell (i := 10) (by simp)
 have m6 := a0.free 10
 have h5 := a0.cell (i := 11) (by simp)
 have n6 := a0.free 11
 have i5 := a0.cell (i := 12) (by simp)
 have o6 := a0.free 12
 have j5 := a0.cell (i := 13) (by simp)
 have p6 := a0.free 13
 have k5 := a0.cell (i := 14) (by simp)
 have r6 := a0.free 14
 have l5 := a0.cell (i := 15) (by simp)
 have s6 := a0.free 15
 have m5 := a0.cell (i := 16) (by simp)
 have t6 := a0.free 16
 have n5 := a0.cell (i := 17) (by simp)
 have x6 := a0.free 17
 have o5 := a0.cell (i := 18) (by simp)
 have z6 := a0.free 18
 have p5 := a0.cell (i := 19) (by simp)
 have a7 := a0.free 19
 simp at g5 h5 i5 j5 k5 l5 m5 n5 o5 p5
 obtain ⟨gk, l3⟩ : ∃ gk : Nat × Nat, gk = (0, 0) := ⟨_, rfl⟩
 have a0 := sK a0
 have m0 := sK m0
 have o0 := sK o0
 have t0 := sK t0
 have w0 := sK w0
 have n0 := sK n0
 have j0 := sK j0
 have l0 := sK l0
 clear d0 e1 gk l3
 go_upto_region 9 with fail
 obtain ⟨Z8, hZ, z0, s1, e0⟩ := Xi a0 m0 (by omega) 10 [zQ, zQ, eQ, zQ, zQ, eQ, zQ, eQ, .int .i64 3, eQ] (by simp)
 simp only [putC] at hZ
 rw [hZ]
 clear hZ
 replace z0 : Blk Z8 gv #[.int .i64 2, .int .i64 1, eQ, zQ, zQ, eQ, zQ, eQ, zQ, eQ, zQ, zQ, eQ, zQ, zQ, eQ, zQ, eQ, .int .i64 3, eQ] := z0
 have e6 := sK z0
 have p3 := sK s1
 have r7 := sK (o0.kept e0 (by simp; omega))
 have s7 := sK (t0.kept e0 (by simp; omega))
 have o4 := sK (w0.kept e0 (by simp; omega))
 have b6 := sK (n0.kept e0 (by simp; omega))
 have n3 : Hid (An Z8 b1 236 #[.func (Fn.func 287) #[] #[pQ b2]] ∧ An Z8 b2 234 #[.func (Fn.func 198) #[] #[]]) := sK ⟨(e0.block b1 (qg.1 j0.out).1 (by simp; omega)).trans j0.out, (e0.block b2 (qg.1 l0.out).1 (by simp; omega)).trans l0.out⟩
 clear g5 m6 h5 n6 i5 o6 j5 p6 k5 r6 l5 s6 m5 t6 n5 x6 o5 z6 p5 a7 z0 s1 e0 a0 m0 o0 t0 w0 n0 j0 l0
 have d6 := sK (w3 Z8 p3 gv b1 b2 e6 n3.out.1 n3.out.2)
 have w4 := b6.out
 obtain ⟨r0, r1, r2⟩ := w4.t3
 clear w4
 go_wp2
 rw [rounds_succ]
 go_wp2_with (go_at_call 289; refine d6.mono ?_; rintro e w9 ⟨B, A0, c9, rfl, l7, p7, d2⟩; have Y7 := o4.below d2; have y0 := Y7.c0; have u0 := Y7.free 0; have y1 := Y7.c1; have u1 := Y7.free 1; have y2 := Y7.c2; have u2 := Y7.free 2; have y3 := Y7.c3; have u3 := Y7.free 3; have y4 := Y7.c4; have u4 := Y7.free 4; have y5 := Y7.c5; have u5 := Y7.free 5; have y6 := Y7.c6; have u6 := Y7.free 6; have y7 := Y7.c7; have u7 := Y7.free 7; have y8 := Y7.c8; have u8 := Y7.free 8; have y9 := Y7.c9; have u9 := Y7.free 9)
 have b7 := Aa d2 p3.out
 obtain ⟨Z, hZ, j2, n2, p4⟩ := Ca Y7 b7 (by omega) [zQ, zQ, eQ, .int .i64 2, .int .i64 1, .slice A0 0 c9, nQ N, .slice B K.length K.length, zQ, eQ] (by simp)
 simp only [putC] at hZ
 rw [hZ]
 clear hZ
 obtain ⟨q0, q1, q2, q3, q4, q5, q6, q7, q8, q9⟩ := j2.t10
 have n7 := o4.lt
 exact bodyPost_ret (v := .tuple #[.agg #[zQ, zQ, eQ, .int .i64 2, .int .i64 1, .slice A0 0 c9, nQ N, .slice B K.length K.length, zQ, eQ], zQ]) (by simp [results, Tryz.results93, go_sem, q0, q1, q2, q3, q4, q5, q6, q7, q8, q9]) rfl ⟨B, A0, c9, rfl, l7, (p7.kept p4 n7).mono (by omega), n2⟩
theorem HamE.below {w w' : WQ} {B g0 c0 g1 c1 : Nat} (h : HamE w B g0 c0 g1 c1) (hb : From w w') : HamE w' B g0 c0 g1 c1 := ⟨Ag h.top hb (qb _), Ag h.sub hb (qb _)⟩
def Vj (v : Value) (w : WQ) : Prop := ∃ bt n ft, v = .map (some bt) ∧ TabI w bt n ft (fun _ => True) True
def Oj (v : Value) (w : WQ) : Prop := ∃ bt n ft, v = .agg #[.map (some bt)] ∧ TabI w bt n ft (fun _ => True) True
theorem Vj.lasting : ∀ v w w', Below w.heap.size w w' -> Vj v w -> Vj v w' := fun _ _ _ hb ⟨a, b, c, h1, h2⟩ => ⟨a, b, c, h1, h2.below hb⟩
theorem Oj.lasting : ∀ v w w', Below w.heap.size w w' -> Oj v w -> Oj v w' := fun _ _ _ hb ⟨a, b, c, h1, h2⟩ => ⟨a, b, c, h1, h2.below hb⟩
def IsCv (base N : Nat) (K : LQ) (v : Value) (w : WQ) : Prop := ∃ B A0 c0, v = .agg (Py A0 c0 N B K.length K.length).toArray ∧ c0 <= maxLen ∧ OwnM w base B K.length K.length K
def Sd (base N : Nat) (K : LQ) (v : Value) (w : WQ) : Prop := ∃ B A0 c0, v = .tuple #[.agg (Py A0 c0 N B K.length K.length).toArray, zQ] ∧ c0 <= maxLen ∧ OwnM w base B K.length K.length K
theorem IsCv.lasting {base N : Nat} {K : LQ} : ∀ v w w', Below w.heap.size w w' -> IsCv base N K v w -> IsCv base N K v w' := fun _ _ _ hb ⟨B, A0, c0, h1, h3, h2⟩ => ⟨B, A0, c0, h1, h3, h2.below hb⟩
theorem Sd.lasting {base N : Nat} {K : LQ} : ∀ v w w', Below w.heap.size w w' -> Sd base N K v w -> Sd base N K v w' := fun _ _ _ hb ⟨B, A0, c0, h1, h3, h2⟩ => ⟨B, A0, c0, h1, h3, h2.below hb⟩
theorem fS (w : WQ) (base g0 c0 g1 c1 : Nat) (hE : HamE w base g0 c0 g1 c1) : cQ 44 #[hamV g0 c0, .bool false] w (RetV 7 Fa w) := by
 have a0 : Hid (∀ wx, From w wx -> cQ 41 #[hamV g0 c0] wx (Ah (zQ) wx)) := sK fun wx h => Zz wx base g0 c0 g1 c1 (hE.below h)
 have k2 := sK fG
 have h0 : Hid (∀ wx, From w wx -> ∀ bt n ft, TabI wx bt n ft (fun _ => True) True -> cQ 93 #[.agg #[.map (some bt)], Cw bHam g0 2 c0, .bool false] wx (RetV 7 Fa wx)) := sK fun wx h bt n ft ht => jR wx 7 Fa (fun wy _ => Ww wy) bt n ft (fun _ => True) ht g0 c0 g1 c1 (hE.rows.1.below h) (hE.rows.2.below h)
 unfold Ah at a0
 unfold RetV at h0 ⊢
 unfold hamV at a0 ⊢
 unfold Cw at h0
 obtain ⟨s, hs⟩ := xQ bHam
 rw [<- hs] at a0 h0 ⊢
 clear hE hs
 generalize hK : Fa = K at *
 clear hK
 go_enter Tryz.func44, Tryz.ntmps44
 go_upto_region 1 with fail
 obtain ⟨W, hW, i1, e0, b0, b1⟩ := mk2 w #[.int .i64 3, .string s, zQ, eQ, .slice (sQ g0) 2 c0] 40 #[zQ, zQ, eQ, zQ, zQ, eQ, zQ, eQ, zQ, eQ] 84
 rw [hW]
 clear hW
 obtain ⟨x0, x1, x2, x3, x4⟩ := b0.t5
 have HX := sK b0
 have HE := sK b1
 have HF := sK e0
 clear b0 b1 e0 i1
 go_upto_region 4 with (go_at_call 41; refine (a0 _ HF.out).mono ?_; rintro e w2 ⟨rfl, l0⟩)
 have l2 := sK (HX.below l0)
 have n1 := sK (HE.below l0)
 have v0 := sK (Aa l0 HF.out)
 clear l0 x0 x1 x2 x3 x4 HX HE a0
 refine wpL 7 20 [(6, 4, 17)] [.r (Vj) Vj.lasting, .r (Oj) Oj.lasting, .v (.agg #[.int .i64 3, .string s, zQ, eQ, .slice (sQ g0) 2 c0]), .v (.bool false), .r (Sd w2.heap.size 7 K) Sd.lasting, .r (IsCv w2.heap.size 7 K) IsCv.lasting, .v (zQ)] w2 (by kernel_rfl) (by kernel_rfl) (by kernel_rfl) (by kernel_rfl) rfl ((From.refl w2).drew) (fun x a2 => ?_) (fun _ _ d9 _ _ h => by cases d9 <;> exact h) ?_
 ·simp only [qx, Kq, or_false] at a2
  rcases a2 with rfl
  ·intro a9 o9 v9 wx ho hx hv he
   obtain rfl := Aq ho; obtain ⟨B9, j3, k3, rfl, v1, h9⟩ := (hv : (Sd w2.heap.size 7 K) v9 wx)
   exact ⟨zQ, Or.inl ⟨rfl, fun w9 => by simp only [execOp, he]; rfl⟩, rfl⟩
 simp only [Tk]
 refine .r (fun wx hx hd KK hK => ?_) (fun s3 => ?_)
 ·clear hd
  go_simp; refine (k2 wx).mono ?_; rintro e w' ⟨m2, n', p2, rfl, g3, j1⟩; exact hK.out _ _ ⟨m2, n', p2, rfl, g3⟩ j1
 simp only [Pt]
 refine .r (fun wx hx hd KK hK => ?_) (fun t3 => ?_)
 ·obtain ⟨o1, e2, r1, rfl, s1⟩ := hd _ (.head _) (by kernel_rfl)
  clear hd; go_simp; exact hK.out _ _ ⟨o1, e2, r1, rfl, s1⟩ (bR)
 simp only [Pt]
 iterate 2 (refine .z (fun wx hx _ hK => by first | (go_simp; exact Kz hK) | (have h9 := l2.below hx; have l3 := h9.c0; have n3 := h9.c1; have o3 := h9.c2; have p3 := h9.c3; have r3 := h9.c4; go_simp; exact Kz hK)) ?_; simp only [Pt])
 refine .r (fun wx hx hd KK hK => ?_) (fun u3 => ?_)
 ·obtain ⟨n2, i3, r2, rfl, t1⟩ := hd _ (.head _) (by kernel_rfl)
  clear hd; go_simp; refine (h0 wx (Aa hx v0.out) _ _ _ t1).mono ?_; rintro e w' ⟨B', i2, o2, rfl, y2, a3, j1⟩; exact hK.out _ _ ⟨B', i2, o2, rfl, y2, a3.mono hx.size⟩ j1
 simp only [Pt]
 refine .r (fun wx hx hd KK hK => ?_) (fun v3 => ?_)
 ·obtain ⟨o0, m0, z0, rfl, l1, e1⟩ := hd _ (.head _) (by kernel_rfl)
  clear hd; go_simp; exact hK.out _ _ ⟨o0, m0, z0, rfl, l1, e1⟩ (bR)
 simp only [Pt]
 refine .v (fun wx hx hd KK hK => ?_) ?_
 ·obtain ⟨o0, m0, z0, rfl, l1, e1⟩ := hd _ (.tail _ (.head _)) (by kernel_rfl)
  clear hd; go_simp; exact Kz hK
 simp only [Pt]
 refine .nil fun w4 z1 hd => ?_
 obtain ⟨o1, e2, r1, rfl, s1⟩ := hd _ (.tail _ (.tail _ (.tail _ (.head _))))
 obtain ⟨n2, i3, r2, rfl, t1⟩ := hd _ (.tail _ (.tail _ (.head _)))
 obtain ⟨o0, m0, z0, rfl, l1, e1⟩ := hd _ (.tail _ (.head _))
 obtain ⟨r0, n0, a1, rfl, z2, s2⟩ := hd _ (.head _)
 clear hd
 have B1 := n1.below z1
 have u2 := Aa z1 v0.out
 have m1 := n1.lt
 unfold Py at *
 obtain ⟨d0, d1, d2, d3, d4, d5, d6, d7, d8, d9⟩ := B1.t10
 obtain ⟨f0, f1, f2, f3, f4, f5, f6, f7, f8, f9⟩ := B1.u10
 go_wp2
 obtain ⟨Z, hZ, t0, w0, y0⟩ := Ca B1 u2 (by omega) [zQ, zQ, eQ, .int .i64 2, .int .i64 1, .slice n0 0 a1, .int .i64 7, .slice r0 K.length K.length, zQ, eQ] (by simp)
 simp only [putC] at hZ
 rw [hZ]
 clear hZ
 obtain ⟨q0, q1, q2, q3, q4, q5, q6, q7, q8, q9⟩ := t0.t10
 exact bodyPost_ret (v := .tuple #[.agg #[zQ, zQ, eQ, .int .i64 2, .int .i64 1, .slice n0 0 a1, .int .i64 7, .slice r0 K.length K.length, zQ, eQ], zQ]) (by simp [results, Tryz.results44, go_sem, q0, q1, q2, q3, q4, q5, q6, q7, q8, q9]) rfl ⟨r0, n0, a1, rfl, z2, (s2.kept y0 m1).mono v0.size, w0⟩
theorem iB (w : WQ) (base g0 c0 g1 c1 : Nat) (hE : HamE w base g0 c0 g1 c1) : cQ 17 #[hamV g0 c0] w (Fz 7 Fa w) := by
 have i0 : Hid (∀ wx, From w wx -> cQ 44 #[hamV g0 c0, .bool false] wx (RetV 7 Fa wx)) := sK fun wx h => fS wx base g0 c0 g1 c1 (hE.below h)
 unfold RetV Py at i0
 unfold Fz
 unfold hamV at i0 ⊢
 obtain ⟨s, hs⟩ := xQ bHam
 rw [<- hs] at i0 ⊢
 clear hE hs
 generalize hK : Fa = K at *
 clear hK
 go_enter Tryz.func17, Tryz.ntmps17
 go_upto_region 1 with fail
 obtain ⟨W, hW, i1, e0, b0, b1⟩ := mk2 w #[.int .i64 3, .string s, zQ, eQ, .slice (sQ g0) 2 c0] 40 #[zQ, zQ, eQ, zQ, eQ] 27
 rw [hW]
 clear hW
 obtain ⟨x0, x1, x2, x3, x4⟩ := b0.t5
 have HE := sK b1
 have HF := sK e0
 clear b0 b1 e0 i1
 go_upto_region 2 with (go_at_call 44; refine (i0 _ HF.out).mono ?_; rintro e w1 ⟨B, A0, c9, rfl, v1, y1, k1⟩)
 obtain ⟨W2, u1, v2, j0, g2⟩ := mk1 w1 #[zQ, zQ, eQ, .int .i64 2, .int .i64 1, .slice A0 0 c9, .int .i64 7, .slice B K.length K.length, zQ, eQ] 84
 rw [u1]
 clear u1
 have B1 := HE.below (Aa j0 k1)
 have t2 := Aa (Aa j0 k1) HF.out
 have j2 := sK (y1.below j0)
 have m1 := HE.lt
 have e3 := HF.size
 obtain ⟨-, -, -, m3, m4, m5, m6, m7⟩ := g2.t8
 obtain ⟨d0, d1, d2, d3, d4⟩ := B1.t5
 obtain ⟨f0, f1, f2, f3, f4⟩ := B1.u5
 clear j0 v2 g2 y1 k1 HF HE x0 x1 x2 x3 x4
 go_wp2
 obtain ⟨Z, hZ, t0, w0, y0⟩ := Ca B1 t2 (by omega) [.int .i64 2, .int .i64 1, .slice A0 0 c9, .int .i64 7, .slice B K.length K.length] (by simp)
 simp only [putC] at hZ
 rw [hZ]
 clear hZ
 obtain ⟨q0, q1, q2, q3, q4⟩ := t0.t5
 exact bodyPost_ret (v := .tuple #[.agg #[.int .i64 2, .int .i64 1, .slice A0 0 c9, .int .i64 7, .slice B K.length K.length], zQ]) (by simp [results, Tryz.results17, go_sem, q0, q1, q2, q3, q4]) rfl ⟨B, A0, c9, rfl, v1, (j2.kept y0 m1).mono e3, w0⟩
theorem iO (w : WQ) (A0 : OQ) (c0 cg : Nat) (B : OQ) (P : NQ) (h : CdOk w c0 7 B 4 cg hamL P) : cQ 18 #[cV A0 c0 7 B 4 cg] w (Ah (.tuple #[.int .i64 3, zQ]) w) := by
 have m0 := sK fun (wx : WQ) (hx : From w wx) => pA wx A0 c0 cg B P (h.below hx)
 have n0 := sK Ik
 unfold Ba at n0
 unfold Zw cV at m0
 unfold cV Ah
 clear h
 go_enter Tryz.func18, Tryz.ntmps18
 go_upto_region 1 with fail
 obtain ⟨W, hW, r1, t0, b0⟩ := mk1 w #[.int .i64 2, .int .i64 1, .slice A0 0 c0, .int .i64 7, .slice B 4 cg] 27
 rw [hW]
 clear hW
 obtain ⟨x0, x1, x2, x3, x4⟩ := b0.t5
 have HF := sK t0
 clear b0 t0 r1
 go_upto_region 2 with (go_at_call 45; refine (m0 _ HF.out).mono ?_; rintro e w2 ⟨vo, A2, c2, l, rfl, d0, e1, a1⟩)
 have f0 := sK (Aa a1 HF.out)
 have m1 : Hid (cQ 46 #[.slice A2 7 c2] w2 (fun e w' => e = .returned (.int .i64 3) ∧ w2 = w')) := sK (by
  have h9 := n0 w2 A2 7 c2 l d0; rw [e1] at h9; exact h9)
 clear d0 e1 a1 x0 x1 x2 x3 x4
 go_wp2_with (go_at_call 46; refine m1.mono ?_; rintro e w3 ⟨rfl, rfl⟩)
 go_ret2
 exact ⟨rfl, f0.out⟩
theorem lK : ∃ P, Rref F2.fld 7 hamL P := by
 rw [<- Sg]
 exact Ji Ew.fldOk (Bn Ew.fldOk Lj).1.mat
theorem eR (w : WQ) : cQ 5 #[] w (Ah (.bool true) w) := by
 obtain ⟨P, hP⟩ := lK
 have l1 := sK hP
 have a0 := sK eC
 have e0 : Hid (∀ (wx : WQ) (base g0 c0 g1 c1 : Nat), HamE wx base g0 c0 g1 c1 -> cQ 17 #[hamV g0 c0] wx (fun e w' => ∃ B A0 c9, e = .returned (.tuple #[.agg #[.int .i64 2, .int .i64 1, .slice A0 0 c9, .int .i64 7, .slice B 4 4], zQ]) ∧ c9 <= maxLen ∧ RdM w' B 4 4 hamL ∧ From wx w')) := sK fun wx base g0 c0 g1 c1 hE => by
  refine (iB wx base g0 c0 g1 c1 hE).mono ?_; rintro e w' ⟨B, A0, c9, rfl, hc, ho, hb⟩; rw [Sg] at ho ⊢; exact ⟨B, A0, c9, rfl, hc, ho.rd, hb⟩
 have l0 := sK iO
 unfold Mo at a0
 unfold hamV at a0 e0
 unfold cV Ah at l0
 unfold Ah
 obtain ⟨s, hs⟩ := xQ bHam
 rw [<- hs] at a0 e0
 clear hP hs
 have k1 : Hid (cQ 15 #[.string { data := #[104, 97, 109, 109, 105, 110, 103, 40, 103, 102, 40, 50, 41, 44, 32, 51, 41] }] w _) := sK (a0 w)
 go_enter Tryz.func5, Tryz.ntmps5
 go_upto_region 2 with (go_at_call 15; refine k1.mono ?_; rintro e w1 ⟨g0, c0, g1, c1, rfl, hE, w0⟩)
 obtain ⟨W2, o0, n1, h0, y0⟩ := mk1 w1 #[.int .i64 3, .string s, zQ, eQ, .slice (sQ g0) 2 c0] 40
 rw [o0]
 clear o0
 obtain ⟨x0, x1, x2, x3, x4⟩ := y0.t5
 have f0 := sK (Aa h0 w0)
 have h1 := sK (hE.below h0)
 clear hE w0 h0 n1 y0
 go_upto_region 3 with (go_at_call 17; refine (e0 W2 _ _ _ _ _ h1.out).mono ?_; rintro e w3 ⟨B, A0, c9, rfl, s1, d1, b1⟩)
 obtain ⟨W4, r0, o1, i0, z0⟩ := mk1 w3 #[.int .i64 2, .int .i64 1, .slice A0 0 c9, .int .i64 7, .slice B 4 4] 27
 rw [r0]
 clear r0
 have i1 := sK (Aa i0 (Aa b1 f0.out))
 have f1 : Hid (CdOk W4 c9 7 B 4 4 hamL P) := sK ⟨s1, d1.below i0, l1.out, by decide, by decide, by decide, by decide⟩
 have HZ := sK z0
 clear b1 i0 o1 d1 x0 x1 x2 x3 x4 z0
 obtain ⟨q0, q1, q2, q3, q4⟩ := HZ.t5
 go_upto_region 4 with (go_at_call 18; refine (l0 W4 A0 c9 4 B P f1.out).mono ?_; rintro e w5 ⟨rfl, j0⟩)
 have j1 := sK (Aa j0 i1.out)
 have v0 := HZ.below j0
 clear q0 q1 q2 q3 q4 j0
 obtain ⟨q0, q1, q2, q3, q4⟩ := v0.t5
 clear v0
 go_wp2
 go_ret
 exact ⟨rfl, j1.out⟩
theorem whole_any (w : WQ) (P M : Int) (A : OQ) (n c : Nat) (l : List Int) (hr : RdZ w A n c l) (N : Int) (B : OQ) (k d : Nat) (R : List (List Int)) (hR : RdMZ w B k d R)
  (P2 M2 : Int) (A2 : OQ) (n2 c2 : Nat) (l2 : List Int) (d0 : RdZ w A2 n2 c2 l2) :
  cQ 3 #[.agg #[.int .i64 P, .int .i64 M, .slice A n c, .int .i64 N, .slice B k d], .agg #[.int .i64 P2, .int .i64 M2, .slice A2 n2 c2]] w (Ah (.bool true) w) :=
 oQ w (fun wx _ => eR wx) P M A n c l hr N B k d R hR P2 M2 A2 n2 c2 l2 d0
end Go.Proofs.YtoalkldfhkabnaaGreatDoor
