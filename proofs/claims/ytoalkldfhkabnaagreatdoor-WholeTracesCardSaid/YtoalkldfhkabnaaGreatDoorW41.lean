/- Part of WholeTraces. -/
import Derived.Deep.RegionLaw
import Derived.Deep.CutRange
import Derived.Test.YtoalkldfhkabnaaGreatDoorW00
import Derived.Test.YtoalkldfhkabnaaGreatDoorW10
import Derived.Test.YtoalkldfhkabnaaGreatDoorW34
import Derived.Test.YtoalkldfhkabnaaGreatDoorW40
set_option linter.all false
set_option maxRecDepth 10000
set_option maxHeartbeats 16000000
namespace Go.Proofs.YtoalkldfhkabnaaGreatDoor
open Go.RowKit Fq
theorem pA (w : WQ) (A0 : OQ) (c0 cg : Nat) (B : OQ) (P : NQ) (h : CdOk w c0 7 B 4 cg hamL P) : cQ 45 #[cV A0 c0 7 B 4 cg] w (Zw w) := by
 obtain ⟨i0, m5, b6, d6, e6⟩ := info_parts Bj
 obtain ⟨v8, i8, k7, l7, m7⟩ := info_parts rS
 obtain ⟨u8, g8, n7, o7, p7⟩ := info_parts pG
 have p3 := sK fun (wx : WQ) (hx : From w wx) => (h.below hx).check (A0 := A0)
 have e4 := sK fun (wx : WQ) (hx : From w wx) => (h.below hx).new (A0 := A0)
 have v3 := sK fun (wx : WQ) (hx : From w wx) => Yc wx A0 c0 cg B P (h.below hx)
 have n4 := sK fun (wx : WQ) (hx : From w wx) (k : Nat) (hk : k < 2) (Ai : OQ) (ci : Nat) (hr : RdN wx Ai 4 ci (Sr k)) => oZ wx A0 c0 7 4 cg B hamL P (h.below hx) ci Ai (Sr k) hr (gM k hk) (rF k hk) (sB k hk)
 have e9 := h.rd.cap
 have u7 := h.rd.max
 unfold maxLen at u7
 unfold Ah at p3
 unfold Ga at e4
 unfold iP at v3
 unfold Rv at n4
 unfold Zw
 unfold cV at *
 clear h
 go_enter Tryz.func45, Tryz.ntmps45
 go_upto_region 1 with fail
 obtain ⟨W, hW, g7, g5, b0⟩ := mk1 w #[.int .i64 2, .int .i64 1, .slice A0 0 c0, .int .i64 7, .slice B 4 cg] 27
 rw [hW]
 clear hW
 obtain ⟨x0, x1, x2, x3, x4⟩ := b0.t5
 have HB := sK b0
 have HF := sK g5
 clear b0 g5 g7
 go_upto_region 4 with (go_at_call 23; refine (p3 _ HF.out).mono ?_; rintro e w2 ⟨rfl, z2⟩)
 have q3 := sK (Aa z2 HF.out)
 have z1 := sK (HB.below z2)
 clear x0 x1 x2 x3 x4 z2 HB
 obtain ⟨x0, x1, x2, x3, x4⟩ := z1.t5
 go_upto_region 9 with (go_at_call 54; refine (e4 _ q3.out).mono ?_; rintro e w3 ⟨bg, rfl, _, l5, a3⟩)
 have r3 := sK (Aa a3 q3.out)
 have a2 := sK (z1.below a3)
 have z3 := sK l5
 clear x0 x1 x2 x3 x4 a3 l5 z1
 obtain ⟨x0, x1, x2, x3, x4⟩ := a2.t5
 go_upto_region 12 with (go_at_call 94; refine (v3 _ r3.out).mono ?_; rintro e w4 ⟨AF, cF, uF, rfl, t8, r1⟩)
 have s3 := sK (Aa r1 r3.out)
 have d2 := sK (a2.below r1)
 have o6 := sK (z3.below r1)
 clear x0 x1 x2 x3 x4 r1 a2 z3
 obtain ⟨x0, x1, x2, x3, x4⟩ := d2.t5
 obtain ⟨vF, a1, a6⟩ := t8
 obtain ⟨ga, y8, s4, y7, _⟩ := a1.form (by decide)
 simp only [qm, true_and] at s4
 obtain ⟨rfl, rfl⟩ := s4
 have l4 : Hid (∀ wx, From w4 wx -> ∀ r, r < 2 -> ∃ gk ck, wx.cell? ⟨ga, r * 2, none⟩ = some (.slice (sQ gk) 4 ck) ∧ wx.cell? ⟨ga, r * 2 + 1, none⟩ = some (.int .i64 (Nr r : Int)) ∧ RdN wx (sQ gk) 4 ck (Sr r)) := sK fun wx hx r hr => by
  obtain ⟨gk, ck, h3, h4, h5, _⟩ := a6 r hr; have h6 := Ag a1 hx (qb _); have hl := h6.1; have h7 := h6.cellAt (r * 2) (by omega); have h8 := h6.cellAt (r * 2 + 1) (by omega); rw [qw 2 r] at h3 h4; exact ⟨gk, ck, h7.trans h3, h8.trans h4, (h5.below hx).rd⟩
 have g1 : Hid (∀ wx, From w4 wx -> Blk wx w.heap.size #[.int .i64 2, .int .i64 1, .slice A0 0 c0, .int .i64 7, .slice B 4 cg]) := sK fun wx hx => d2.below hx
 have q7 : 2 <= cF ∧ cF <= maxLen := by
  rcases a1.2 with ⟨h2, _⟩ | ⟨g, cap, cur, h2, _, _, h3, h4, _⟩
  ·cases h2
  ·simp only [qm] at h2
   rw [h2.2.2]; exact ⟨h3, h4⟩
 obtain ⟨d9, r7⟩ := q7
 unfold maxLen at r7
 have r9 : w.heap.size < w4.heap.size := d2.lt
 have f9 : ga < w4.heap.size := (a1.lt ga rfl).2
 clear a1 a6 y7
 go_upto_region 14 with fail
 obtain ⟨W5, c5, e7, d5, y0⟩ := mk1 w4 #[pQ bg, .int .i64 2, .int .i64 1, .slice A0 0 c0, .int .i64 7, .slice B 4 cg, eQ, eQ, zQ] 144
 rw [c5]
 clear c5
 have y6 := sK y0
 have e2 := sK d5
 clear y0 d5 e7 x0 x1 x2 x3 x4
 go_wp2
 go_loopw [10, 55] (fun rv iv wr => ∃ (r : Nat) (Ar : OQ) (cr : Nat) (AG : OQ) (cG : Nat), r <= 2 ∧ iv = .int .i64 (r : Int) ∧ rv = .slice Ar r cr ∧ Blk wr w4.heap.size #[pQ bg, .int .i64 2, .int .i64 1, .slice A0 0 c0, .int .i64 7, .slice B 4 cg, .slice AG r cG, eQ, zQ] ∧ GnI wr (w4.heap.size + 1) w4.heap.size r Ar cr AG cG ∧ From w4 wr) (fun _ iv _ => 2 - (intOf iv).toNat)
 case atStart => exact ⟨0, none, 0, none, 0, by omega, rfl, rfl, y6.out, GnI.nil _ _ _, e2.out⟩
 case round =>
  obtain ⟨r, Ar, cr, AG, cG, k9, rfl, rfl, hS, hG, hF⟩ := hrel; obtain ⟨wo, rfl⟩ := xQ wr; have HS := sK hS; have HG := sK hG; have i1 := sK hF; clear hS hG hF
  by_cases hr : r < 2
  ·have j8 : (r : Int) < 2 := by omega
   obtain ⟨gk, ck, d0, d1, b5⟩ := l4 wo i1 r hr; have o4 := sK b5; clear b5; go_upto_region 17 with fail
   obtain ⟨Wx, i5, i7, v0, y0⟩ := mk1 wo #[.slice (sQ gk) 4 ck, .int .i64 (Nr r : Int)] 146; rw [i5]; clear i5; have HX := sK y0; have i2 := sK (Aa v0 i1.out); have r2 := sK (HS.below v0); have r0 := sK (HG.below v0); have m9 : w4.heap.size < wo.heap.size := HS.lt; have p6 : Hid (∀ b, (Value.slice AG r cG).ownBlock = some b -> b < wo.heap.size) := sK fun b e => by
    obtain ⟨vs, h1, _⟩ := HG.gn; exact (h1.lt b e).2
   have z6 := sK (n4 Wx (Aa i2 s3.out) r hr _ _ (o4.below v0)); clear d0 d1 y0 v0 i7 HS HG o4; obtain ⟨x0, x1, x2, x3, x4⟩ := ((g1 Wx i2.out)).t5; obtain ⟨m0, m1⟩ := HX.t2; go_upto_region 18 with (go_at_call 95; refine z6.mono ?_; rintro e w6 ⟨Bk, j0, rfl, y5, d3⟩)
   obtain ⟨W7, e5, f7, y2, y0⟩ := mk1 w6 #[.int .i64 7, .slice Bk 4 j0] 52; rw [e5]; clear e5; have w0 := Aa y2 d3; have k6 := sK (Aa w0 i2.out); have n0 := sK (r2.below w0); have r4 := sK (HX.below w0); have c4 := sK y0; have j2 := sK (r0.below w0); have v9 : wo.heap.size < Wx.heap.size := HX.lt; have j4 : Hid (Cc W7 (X3 w4.heap.size (.slice Ar r cr) (.slice AG r cG)) Bk 4 j0 (Gk r)) := sK ((y5.below y2).less (fun b hb => by
    left
    obtain ⟨vs, h1, _⟩ := r0.gn
    rcases hb with h2 | h2 | h2
    ·have := r2.lt; omega
    ·exact (r0.rk.row.lt b h2).2
    ·exact (h1.lt b h2).2))
   have a4 : Hid (∀ b, (Value.slice AG r cG).ownBlock = some b -> b < w6.heap.size) := sK fun b e => by
    obtain ⟨vs, h1, _⟩ := (r0.below d3).gn; exact (h1.lt b e).2
   clear x0 x1 x2 x3 x4 m0 m1 d3 w0 y2 f7 y0 y5 r2 HX r0; obtain ⟨vs, m3, q5⟩ := j2.gn; have l1 := sK m3; have b4 := sK q5; have z0 : w4.heap.size < w4.heap.size + 1 := by omega
   have d4 : Hid ((Value.slice AG r cG).ownBlock ≠ some w4.heap.size) := sK fun e => by
    have := Ch m3 e; omega
   have r6 : Hid ((Value.slice AG r cG).ownBlock ≠ some w6.heap.size) := sK fun e => by
    have h9 := (a4 w6.heap.size e)
    omega
   have g4 : Hid ((Value.slice AG r cG).ownBlock ≠ some wo.heap.size) := sK fun e => by
    have h9 := p6 wo.heap.size e; omega
   have p9 : w4.heap.size + 1 <= W7.heap.size := by have := n0.lt; omega
   clear m3 q5; go_upto_region 20 with fail
   go_cut [55] from 55 to 85 (fun iv wx => iv = .int .i64 (r : Int) ∧ ∃ (g2 e0 : Nat), Blk wx w4.heap.size #[pQ bg, .int .i64 2, .int .i64 1, .slice A0 0 c0, .int .i64 7, .slice B 4 cg, .slice (sQ g2) (r + 1) e0, eQ, zQ] ∧ GnH wx (w4.heap.size + 1) w4.heap.size r Ar cr (sQ g2) e0 ∧ From w4 wx ∧ Blk wx wo.heap.size #[.slice (sQ gk) 4 ck, .int .i64 (Nr r : Int)])
   case first =>
    have n8 : W7.cell? ⟨w4.heap.size, 6, none⟩ = some (.slice AG r cG) := n0.c6; have o8 : W7.cell? ⟨w6.heap.size, 1, none⟩ = some (.slice Bk 4 j0) := c4.c1; have l8 : ∀ o, (W7.alloc o).cell? ⟨w4.heap.size, 6, none⟩ = some (.slice AG r cG) := fun o => (n0.below (Ac W7 o)).c6
    have w7 : W7.frozen? ⟨w4.heap.size, 6, none⟩ = false := n0.free 6; go_region_law
     ((refine step_append_lies _ rfl (.tmp 73) (.tmp 76) 142 rfl (w4.heap.size + 1) 25 v8 (eQ) 1 24 Tryz.underlying142 i8 k7 l7 m7 rfl (by omega) _ r vs rfl (Ag l1 (Ac W7 _).drew (qb _)) _ 1 1 [.slice Bk 4 j0] rfl rfl (Dv W7 #[.slice Bk 4 j0] 25) (by simp [Value.oneCell']) (by omega) (by unfold maxLen; omega) (by omega) (by simp; omega) _ rfl ?_; intro g2 e0 l0 v1 f0 u1 l3; have n1 := (n0.below (Ac W7 (.cells #[.slice Bk 4 j0] 25)).drew).kept f0 d4.out; have m8 : l0.cell? ⟨w4.heap.size, 6, none⟩ = some (.slice AG r cG) := n1.c6; have v7 : l0.frozen? ⟨w4.heap.size, 6, none⟩ = false := n1.free 6))
    all_goals
     have a0 : From W7 (W7.alloc (.cells #[.slice Bk 4 j0] 25)).drew := (Ac W7 _).drew; have o1 := GnI.gens (j2.rk.below a0) (Ag l1 a0 (qb _)) (fun k hk => by
      obtain ⟨B9, c9, h3, h4⟩ := b4 k hk; exact ⟨B9, c9, h3, h4.below a0⟩) (j4.below a0) f0 v1 u1
     have j3 := Ad l0 w4.heap.size 6 (.slice (sQ g2) (r + 1) e0); have b7 := o1.kept j3 z0; have u4 := n1.set 6 (.slice (sQ g2) (r + 1) e0); simp only [qj, qo, qp] at u4; have j7 := ((r4.below a0).kept f0 (fun e => g4 e)).kept j3 (fun e => by simp only [qc] at e; omega); have a7 : From w4 (l0.setCell ⟨w4.heap.size, 6, none⟩ (.slice (sQ g2) (r + 1) e0)) := (qac (Aa a0 k6.out) f0 (by simp; omega) (fun k hk => by have := (l1.lt k hk).1; omega)).setCell (p := ⟨w4.heap.size, 6, none⟩) (qb _) _; clear n1 m8 v7 n8 o8 l8 w7 o1 j3 f0 v1 u1 l3 a0; go_wp2; go_meet
     case rel => exact ⟨rfl, g2, e0, u4, b7, a7, j7⟩
   case rest =>
    obtain ⟨rfl, g2, e0, v2, u2, v4, j5⟩ := hcut; obtain ⟨wd, rfl⟩ := xQ wc; have n2 := sK v2; have q0 := sK u2; have l6 := sK v4; obtain ⟨m0, m1⟩ := j5.t2; have j9 := sI r hr; have s9 : w4.heap.size + 1 <= wd.heap.size := by have := v2.lt; omega
    have t6 : Hid ((Value.slice Ar r cr).ownBlock ≠ some w4.heap.size) := sK fun e => by
     have := Ch u2.rk.row e; omega
    clear v2 u2 v4 j5 n0 r4 c4 j2 j4 a4 l1 b4 d4 r6 g4; generalize hNN : Nr r = nr at *; go_upto_region 22 with (at_builtin; refine Bl rfl (.tmp 80) (.tmp 83) 22 rfl i0 Tryz.underlying22 m5 b6 d6 e6 (w4.heap.size + 1) _ _ _ (rkL r) rfl (q0.rk.alloc _) _ 0 nr rfl (by go_simp) (by omega) (by omega) (by simp; omega) ?_; intro g3 c3 x8 v5 t1 w5)
    have a0 : From wd (wd.alloc (.cells #[.int .i64 (nr : Int)] 3)) := Ac _ _; have m6 : Hid (GnI x8 (w4.heap.size + 1) w4.heap.size (r + 1) (sQ g3) c3 (sQ g2) e0) := sK ((q0.below a0).rank t1 (by rw [hNN]; exact v5) (w5.imp (fun h => by rw [h]; rfl) (fun h => h))); have x6 := sK ((n2.below a0).kept t1 t6.out); have i6 := sK (qac (Aa a0 l6.out) t1 (by simp; omega) (fun k hk => by have := Ch q0.rk.row hk; omega)); clear a0 v5 t1 w5; go_wp2; go_roundw
    case rel => exact ⟨r + 1, sQ g3, c3, sQ g2, e0, by omega, by go_num, rfl, x6.out, m6.out, i6.out⟩
    case measure => simp [intOf]; omega
  ·obtain rfl : r = 2 := by omega
   have j8 : ¬ ((2 : Nat) : Int) < 2 := by omega
   obtain ⟨hF, f1, f2, f3, f4, f5, f6⟩ : ∃ h : Nat -> Value, h 1 = .int .i64 2 ∧ h 2 = .int .i64 1 ∧ h 3 = .slice A0 0 c0 ∧ h 4 = .int .i64 7 ∧ h 5 = .slice B 4 cg ∧ h 6 = .slice AG 2 cG :=
    ⟨fun k => match k with | 1 => .int .i64 2 | 2 => .int .i64 1 | 3 => .slice A0 0 c0 | 4 => .int .i64 7 | 5 => .slice B 4 cg | _ => .slice AG 2 cG, rfl, rfl, rfl, rfl, rfl, rfl⟩
   have m4 : Hid (SrS w4 wo w4.heap.size bg hF [] 0) := sK ⟨⟨none, 0, by rw [f1, f2, f3, f4, f5, f6]; exact HS.out, OwnN.nil _ _, fun k e => by cases e⟩, i1.out, o6.out, qb _, .inl rfl, fun x hx => by cases hx⟩; have e2 := sK f5; have j6 := sK f6; have z0 : w4.heap.size < w4.heap.size + 1 := by omega
   have p2 : Hid (∀ (wx : WQ) (b : NQ) (n : Nat), SrS w4 wx w4.heap.size bg hF b n -> ∃ Ab cb, wx.cell? ⟨w4.heap.size, 6, none⟩ = some (.slice AG 2 cG) ∧ wx.cell? ⟨w4.heap.size, 7, none⟩ = some (.slice Ab b.length cb) ∧ wx.cell? ⟨w4.heap.size, 8, none⟩ = some (.int .i64 (n : Int)) ∧ OwnN wx 0 Ab b.length cb b) := sK fun wx b n hs => by
    obtain ⟨Ab, cb, h1, h2, _⟩ := hs.ex; rw [f6] at h1; obtain ⟨-, -, -, -, -, -, c6, c7, c8⟩ := h1.t9; exact ⟨Ab, cb, c6, c7, c8, h2⟩
   clear f1 f2 f3 f4 f5 f6 HS i1 l4; go_wp2
   go_loopw [15, 16] (fun ov tv wr => ∃ (t n : Nat) (Ao : OQ) (co : Nat) (vs : VQ), t < 2 ∧ tv = .int .i64 ((t + 1 : Nat) : Int) ∧ ov = .slice Ao t co ∧ (t = 0 -> Ao = none) ∧ wr.ownsRow (w4.heap.size + 1) 152 4 (.slice Ao t co) t vs ∧ n <= 100 * t ∧ SrS w4 wr w4.heap.size bg hF (bst t) n ∧ GnI wr (w4.heap.size + 1) w4.heap.size 2 Ar cr AG cG) (fun _ tv _ => 3 - (intOf tv).toNat)
   case atStart => exact ⟨0, 0, none, 0, [], by omega, rfl, rfl, fun _ => rfl, Rq _ _ 152 4, by omega, m4.out, HG.out⟩
   case round =>
    clear HG m4; obtain ⟨t, n, Ao, co, vs, ht, rfl, rfl, u5, hO, hn, hS, hG⟩ := hrel; obtain ⟨wp, rfl⟩ := xQ wr; have HO := sK hO; have HS := sK hS; have HG := sK hG; have q6 := sK u5; obtain ⟨r5, s5⟩ := rP t ht; have j1 : Hid (cQ 96 #[pQ w4.heap.size, .int .i64 ((t + 1 : Nat) : Int)] wp (Ah (.tuple #[.int .i64 (2 * (chm t : Int)), zQ]) wp)) := sK (mE w4 wp w4.heap.size bg hF (bst t) n hS (by omega) B cg e2 AG cG j6 (t + 1) (chm t) r5 s5 (by omega) (by omega) (iU t ht)); unfold Ah at j1; obtain ⟨T, hT⟩ := xQ (t + 1); have HT := sK hT; rw [<- hT] at j1 ⊢; have b9 : (T : Int) <= 4 := by omega
    have a9 : (0 : Int) < (T : Int) := by omega
    generalize 2 * (chm t : Int) = q9 at *; obtain ⟨x0, x1, x2, x3, x4⟩ := ((g1 wp HS.fr)).t5; clear hO hS hG u5 r5 s5 hT; go_upto_region 28 with (go_at_call 96; refine j1.mono ?_; rintro e w1 ⟨rfl, q1⟩)
    have l2 := sK (HS.below q1); have y3 := sK (HG.below q1); have i4 := sK (Ag HO q1 (qb _)); clear q1 x0 x1 x2 x3 x4 HS HG HO j1; obtain ⟨Ab, cb, s6, s7, s8, _⟩ := p2 w1 _ _ l2.out; go_wp2
    go_loopw [107] (fun jv wr => ∃ j n' : Nat, j <= 2 ∧ jv = .int .i64 (j : Int) ∧ n' <= n + 25 * j ∧ SrS w4 wr w4.heap.size bg hF (bstJ (bst t) t j) n' ∧ GnI wr (w4.heap.size + 1) w4.heap.size 2 Ar cr AG cG ∧ wr.ownsRow (w4.heap.size + 1) 152 4 (.slice Ao t co) t vs) (fun jv _ => 2 - (intOf jv).toNat)
    case atStart => exact ⟨0, n, by omega, rfl, by omega, l2.out, y3.out, i4.out⟩
    case round =>
     clear s6 s7 s8 l2 y3 i4; obtain ⟨j, n', hj, rfl, i9, hS, hG, hO⟩ := hrel; obtain ⟨wq, rfl⟩ := xQ wr; have HS := sK hS; have HG := sK hG; have HO := sK hO; clear hS hG hO
     by_cases hj2 : j < 2
     ·have k8 : (j : Int) < 2 := by omega
      obtain ⟨vg, b1, p5⟩ := HG.gn; obtain ⟨gg, z8, t4, d8, e8⟩ := b1.form (by decide); simp only [qm, true_and] at t4; obtain ⟨rfl, rfl⟩ := t4; obtain ⟨Bk, ck, n5, o5⟩ := p5 j hj2; have f8 := b1.1; have t7 : wq.cell? ⟨gg, j, none⟩ = some (.slice Bk 4 ck) := (b1.cellAt j (by omega)).trans n5; have a8 : 2 <= cG ∧ cG <= maxLen := by
       rcases b1.2 with ⟨h2, _⟩ | ⟨g, cap, cur, h2, _, _, h3, h4, _⟩
       ·cases h2
       ·simp only [qm] at h2
        rw [h2.2.2]; exact ⟨h3, h4⟩
      obtain ⟨g9, b8⟩ := a8; unfold maxLen at b8; have l9 : w4.heap.size < wq.heap.size := by
       obtain ⟨_, _, h1, _⟩ := HS.ex; exact h1.lt
      have k4 := sK (o5.apart (s := w4.heap.size) (.inl rfl)); obtain ⟨x0, x1, x2, x3, x4⟩ := ((g1 wq HS.fr)).t5; clear b1 p5 n5 o5 f8 d8 e8; have o2 : Hid (∀ wx, From wq wx -> ∀ A c, RdN wx A 7 c z7 -> (∀ k o, A = some ⟨k, o, none⟩ -> k ≠ w4.heap.size) -> cQ 97 #[pQ w4.heap.size, .slice Bk 4 ck, .slice A 7 c, zQ, .int .i64 (T : Int), .bool true] wx (cO w4 w4.heap.size bg hF (bstJ (bst t) t (j + 1)) (n' + 25) wx)) := sK fun wx hx A c hr q8 => by
       obtain ⟨hl, hm⟩ := rU hj2; have h5 := sG t ht; have h9 := Uy (Gk j) hl hm w4 w4.heap.size bg hF Bk ck (t + 1) wx _ n' (HS.below hx) (k4.below hx) A c z7 hr rO q8 0 (by omega) true (by omega); rw [HT.out, gK _ _ _ hj2]; refine h9.mono ?_; rintro e w' ⟨h1, ⟨n9, h2, h3⟩, h4⟩; exact ⟨h1, ⟨n9, by omega, h3⟩, h4⟩
      unfold cO at o2; go_upto_region 34 with (first
       | (at_make; refine Bd rfl _ _ _ rfl i0 Tryz.underlying22 m5 b6 d6 e6 _ _ 7 rfl rfl (by omega) ?_; intro w8 x5 s1 r8)
       | (go_at_call 97; refine (o2 w8 s1 (sQ wq.heap.size) 7 x5.rd (fun k o e => by simp only [qc, qd, and_true] at e; omega)).mono ?_; rintro e w9 ⟨⟨u9, rfl⟩, ⟨n9, p8, z5⟩, k3⟩))
      have n2 := sK z5; have q0 := sK ((HG.below s1).kept k3 z0); have v6 := sK (iL (Ag HO s1 (qb _)) k3 z0); clear z5 k3 x5 s1 r8 x0 x1 x2 x3 x4 t7 HS HG HO o2 k4; go_wp2; go_roundw
      case rel => exact ⟨j + 1, n9, by omega, by go_num, by omega, n2.out, q0.out, v6.out⟩
      case measure => simp [intOf]; omega
     ·obtain rfl : j = 2 := by omega
      have k8 : ¬ ((2 : Nat) : Int) < 2 := by omega
      have k5 := nK t ht; have HB := sK k5; have k1 : Hid (SrS w4 wq w4.heap.size bg hF (bst (t + 1)) n') := sK (by rw [HB.out]; exact HS.out); have t3 : Hid (cQ 98 #[.int .i64 4, .slice Ar 2 cr, .int .i64 (T : Int)] wq (fun e w' => e = .returned (.tuple #[.int .i64 (2 * (t : Int) + 3), zQ]) ∧ wq = w')) := sK (by
       have h9 := gN wq Ar 2 cr 4 (t + 1) (rkL 2) HG.rk.rd (by omega) (by omega) (by omega) rT; rw [sH t ht, <- HT.out] at h9; have e1 : ((2 * t + 3 : Nat) : Int) = 2 * (t : Int) + 3 := by omega
       rw [<- e1]; exact h9)
      obtain ⟨x0, x1, x2, x3, x4⟩ := ((g1 wq HS.fr)).t5; obtain ⟨Ab, cb, s6, s7, s8, g0⟩ := p2 wq _ _ k1.out; obtain ⟨n3, e3⟩ := rJ t ht; rw [e3] at s7 g0; have k2 := sK g0; have t0 : Hid (∀ wx, From wq wx -> cQ 46 #[.slice Ab 7 cb] wx (fun e w' => e = .returned (.int .i64 3) ∧ wx = w')) := sK fun wx hx => by
       have h9 := Ik wx Ab 7 cb _ (g0.rd.below hx); rw [n3] at h9; exact h9
      have g6 := sK e3; have q4 := sK n3; clear HS g0 n3 e3 k5; go_upto_region 38 with (go_at_call 98; refine t3.mono ?_; rintro e w9 ⟨rfl, rfl⟩)
      obtain ⟨fl, i3⟩ : ∃ fl : Int, fl = 2 * (t : Int) + 3 := ⟨_, rfl⟩
      rw [<- i3]; have u3 := sK i3; have p8 : (n' : Int) <= 1000 := by omega
      clear i3 t3
      go_cut [15, 16] from 86 to 152 (fun ov tv wx => tv = .int .i64 (T : Int) ∧ ∃ A2 c2 o3, ov = .slice A2 (t + 1) c2 ∧ wx.ownsRow (w4.heap.size + 1) 152 4 (.slice A2 (t + 1) c2) (t + 1) o3 ∧ SrS w4 wx w4.heap.size bg hF (bst (t + 1)) n' ∧ (t = 0 -> GnI wx (w4.heap.size + 1) w4.heap.size 2 Ar cr AG cG))
      case first =>
       have o9 : w4.heap.size + 1 <= wq.heap.size := by
        obtain ⟨_, _, h1, _⟩ := k1.ex; exact h1.lt
       go_region_law (first
        | (go_simp; go_at_call 46; refine (t0 _ (From.refl wq).drew).mono ?_; rintro e w' ⟨rfl, rfl⟩)
        | (refine step_append_lies _ rfl (.tmp 131) (.tmp 144) 87 rfl (w4.heap.size + 1) 152 u8 (.agg #[zQ, zQ, zQ, zQ]) 4 32 Tryz.underlying87 g8 n7 o7 p7 rfl (by omega) _ t vs rfl (Ag HO (Ac wq _).drew (qb _)) _ 1 1 [.int .i64 (T : Int), .int .i64 (n' : Int), .int .i64 3, .int .i64 fl] rfl rfl (Dv wq #[.int .i64 (T : Int), .int .i64 (n' : Int), .int .i64 3, .int .i64 fl] 152) (by simp [Value.oneCell']) (by omega) (by unfold maxLen; omega) (by omega) (by simp; omega) _ rfl ?_; intro g2 e0 l0 v1 f0 u1 l3))
       all_goals
        have a0 : From wq (wq.alloc (.cells #[.int .i64 (T : Int), .int .i64 (n' : Int), .int .i64 3, .int .i64 fl] 152)).drew := (Ac wq _).drew; have d7 := (k1.below a0).turned (Ag HO a0 (qb _)) f0 z0; have o1 : t = 0 -> GnI l0 (w4.heap.size + 1) w4.heap.size 2 Ar cr AG cG := fun h0 => by
         have o0 : (wq.alloc (.cells #[.int .i64 (T : Int), .int .i64 (n' : Int), .int .i64 3, .int .i64 fl] 152)).drew.grownBy l0 (Value.slice Ao t co).ownBlock := f0; rw [q6 h0] at o0; exact (HG.below a0).below ⟨o0.os, o0.tape, o0.output, o0.size, fun k hk => o0.block k hk (by simp [Value.ownBlock])⟩
        clear f0 u1 l3 a0; go_wp2; go_meet
        case rel => exact ⟨rfl, sQ g2, e0, _, rfl, v1, d7, o1⟩
      case rest =>
       obtain ⟨rfl, A2, c2, o3, rfl, z4, a5, y4⟩ := hcut; obtain ⟨wd, rfl⟩ := xQ wc; have u6 := sK z4; have m2 := sK a5; have n6 := sK y4; clear s6 s7 s8 x0 x1 x2 x3 x4 z4 a5 y4 t0 k2 HO HG k1; obtain ⟨y1, s2, s6, s7, s8, g0⟩ := p2 wd _ _ m2.out; rw [g6.out] at s7 g0; have k2 := sK g0; have t0 : Hid (cQ 46 #[.slice y1 7 s2] wd (fun e w' => e = .returned (.int .i64 3) ∧ wd = w')) := sK (by
        have h9 := Ik wd y1 7 s2 _ g0.rd; rw [q4.out] at h9; exact h9)
       clear g0
       by_cases ht0 : t = 0
       ·have x7 : ¬ (3 : Int) < fl := by have := u3.out; omega
        have p4 := sK ht0; clear ht0; go_wp2_with (go_at_call 46; refine t0.mono ?_; rintro e w' ⟨rfl, rfl⟩); go_roundw
        case rel => exact ⟨t + 1, n', A2, c2, o3, by have := p4.out; omega, by rw [show ((t + 1 + 1 : Nat) : Int) = (T : Int) + 1 by have := HT.out; omega], rfl, fun h => by omega, u6.out, by omega, m2.out, n6 p4.out⟩
        case measure => have := HT.out; simp [intOf]; omega
       ·have x7 : (3 : Int) < fl := by have := u3.out; omega
        go_upto_region 40 with (go_at_call 46; refine t0.mono ?_; rintro e w' ⟨rfl, rfl⟩)
        go_region; go_wp2; go_ret3; exact ⟨_, y1, s2, _, rfl, k2.rd.drew, q4.out, Aa (From.drew m2.fr) s3.out⟩
theorem bY : (Tryz.prog.info? 84).map (fun i => (i.zero, i.size, i.bytes)) = some (some (.agg #[zQ, zQ, eQ, zQ, zQ, eQ, zQ, eQ, zQ, eQ]), 10, 144) := by kernel_rfl
theorem mI : madeCells (Value.agg #[zQ, zQ, eQ, zQ, zQ, eQ, zQ, eQ, zQ, eQ]).cells 10 = #[zQ, zQ, eQ, zQ, zQ, eQ, zQ, eQ, zQ, eQ] := by kernel_rfl
theorem kF : madeCells (Value.agg #[zQ, zQ, eQ, zQ, zQ, eQ, zQ, eQ, zQ, eQ]).cells 20 = #[zQ, zQ, eQ, zQ, zQ, eQ, zQ, eQ, zQ, eQ, zQ, zQ, eQ, zQ, zQ, eQ, zQ, eQ, zQ, eQ] := by kernel_rfl
theorem mW (w : WQ) : (Instr.makeSlice 191 (.int .i64 1) (.int .i64 1)).run Tryz.prog w = .ok (.slice (sQ w.heap.size) 1 1) (w.alloc (.cells #[zQ, zQ, eQ, zQ, zQ, eQ, zQ, eQ, zQ, eQ] 84)) := by
 obtain ⟨i, h1, h2, h3, h4⟩ := info_parts bY
 have := run_make (P := Tryz.prog) w 191 84 i _ Tryz.underlying191 h1 h2 .i64 .i64 1 1 (by omega) (by omega) (by rw [h4]; decide) (by decide)
 rw [h3, show (1 : Int).toNat * 10 = 10 from rfl, mI] at this
 exact this
theorem jU (w : WQ) : (Instr.makeSlice 191 (.int .i64 2) (.int .i64 2)).run Tryz.prog w = .ok (.slice (sQ w.heap.size) 2 2) (w.alloc (.cells #[zQ, zQ, eQ, zQ, zQ, eQ, zQ, eQ, zQ, eQ, zQ, zQ, eQ, zQ, zQ, eQ, zQ, eQ, zQ, eQ] 84)) := by
 obtain ⟨i, h1, h2, h3, h4⟩ := info_parts bY
 have := run_make (P := Tryz.prog) w 191 84 i _ Tryz.underlying191 h1 h2 .i64 .i64 2 2 (by omega) (by omega) (by rw [h4]; decide) (by decide)
 rw [h3, show (2 : Int).toNat * 10 = 20 from rfl, kF] at this
 exact this
theorem dL (w : WQ) (bt n : Nat) (hn : n <= 1000) : cQ 141 #[.agg #[.map (some bt)], numV n, .int .u8 78] w (Ah (.tuple #[.agg (numL n).toArray, zQ]) w) := by
 unfold Ah numL
 go_enter Tryz.func141, Tryz.ntmps141
 go_upto_region 1 with fail
 obtain ⟨W, hW, n1, l0, b0, b1, b2⟩ := mk3 w #[.map (some bt)] 137 #[.int .i64 1, .string { data := #[] }, nQ n, eQ, eQ] 40 #[zQ, zQ, eQ, zQ, zQ, eQ, zQ, eQ, zQ, eQ] 84
 rw [hW]
 clear hW
 obtain ⟨x0, x1, x2, x3, x4⟩ := b1.t5
 obtain ⟨y0, y1, y2, y3, y4, y5, y6, y7, y8, y9⟩ := b2.t10
 obtain ⟨f0, f1, f2, f3, f4, f5, f6, f7, f8, f9⟩ := b2.u10
 have HB := sK b2
 have HF := sK l0
 clear b0 b1 b2 l0 n1
 go_wp2
 obtain ⟨Z, hZ, d1, e1, e4⟩ := Ca HB HF (by omega) [zQ, zQ, eQ, zQ, zQ, eQ, zQ, eQ, nQ n, eQ] (by simp)
 simp only [putC] at hZ
 rw [hZ]
 clear hZ
 obtain ⟨q0, q1, q2, q3, q4, q5, q6, q7, q8, q9⟩ := d1.t10
 exact bodyPost_ret (v := .tuple #[.agg #[zQ, zQ, eQ, zQ, zQ, eQ, zQ, eQ, nQ n, eQ], zQ]) (by simp [results, Tryz.results141, go_sem, q0, q1, q2, q3, q4, q5, q6, q7, q8, q9]) rfl ⟨rfl, e1⟩
theorem oT (w : WQ) (bt n : Nat) (ft : List UInt8 -> Option Value) (D : List UInt8 -> Prop) (hT : TabI w bt n ft D True) (g1 c1 : Nat) (hg1 : RowE w g1 1 c1 num2) : cQ 93 #[.agg #[.map (some bt)], Cw bGf g1 1 c1, .bool true] w (Ah (.tuple #[.agg gfL.toArray, zQ]) w) := by
 have t4 := mW
 have w4 := Bz
 have z4 := Du
 have p4 := hg1.cap
 have l4 := hg1.max
 unfold maxLen at l4
 have i1 : Hid (∀ wx, From w wx -> cQ 140 #[.agg #[.map (some bt)], Cw bGf g1 1 c1, .bool true] wx (Jh wx)) := sK fun wx h => qZ wx bt n ft D (hT.below h) g1 c1
 have i3 : Hid (∀ wx, cQ 141 #[.agg #[.map (some bt)], .agg #[.int .i64 1, .string { data := #[] }, .int .i64 2, eQ, eQ], .int .u8 78] wx (Ah (.tuple #[.agg #[zQ, zQ, eQ, zQ, zQ, eQ, zQ, eQ, .int .i64 2, eQ], zQ]) wx)) := sK fun wx => dL wx bt 2 (by omega)
 have d2 := sK fV
 have j0 := sK hg1
 unfold Jh at i1
 unfold Ah at *
 unfold gfL at d2 ⊢
 obtain ⟨s, hs⟩ := xQ bGf
 rw [<- hs] at i1 ⊢
 clear hs hT hg1
 unfold Cw at *
 go_enter Tryz.func93, Tryz.ntmps93
 go_upto_region 1 with fail
 obtain ⟨W, hW, n1, l0, l1, m1, o2⟩ := mk3 w #[.map (some bt)] 137 #[.int .i64 3, .string s, zQ, eQ, .slice (sQ g1) 1 c1] 40 #[zQ, zQ, eQ, zQ, zQ, eQ, zQ, eQ, zQ, eQ] 84
 rw [hW]
 clear hW
 have k0 := l1.t1
 obtain ⟨x0, x1, x2, x3, x4⟩ := m1.t5
 have j2 := sK l1
 have k2 := sK m1
 have l2 := sK o2
 have HF := sK l0
 clear l1 m1 o2 l0 n1
 go_upto_region 2 with (go_at_call 140; refine (i1 _ HF.out).mono ?_; rintro e w2 ⟨b1, rfl, a1, g0⟩)
 obtain ⟨W3, t2, g4, e0, k1⟩ := mk1 w2 #[.string { data := #[78] }, .func (Fn.func 187) #[] #[pQ b1], .nilFunc] 189
 rw [t2]
 clear t2
 have t0 : Hid (w.heap.size + 1 + 1 < W3.heap.size ∧ w2.heap.size < W3.heap.size ∧ b1 < w2.heap.size) := sK ⟨by have := l2.lt; have := g0.size; omega, by omega, (qg.1 a1).1⟩
 have HR := sK k1
 have l3 := sK (Aa (Aa e0 g0) HF.out)
 have w1 := sK (a1.from e0)
 have a2 := sK (Aa e0 g0)
 have n0 := k2.below (Aa e0 g0)
 have m0 := j2.below (Aa e0 g0)
 have p0 := m0.t1
 obtain ⟨x0, x1, x2, x3, x4⟩ := n0.t5
 obtain ⟨r0, r1, r2⟩ := k1.t3
 clear k1 e0 g0 a1 g4 k0 m0 n0
 go_upto_region 5 with fail
 obtain ⟨W4, z2, i4, z0, n2⟩ := mk1 W3 #[zQ, zQ, eQ, zQ, zQ, eQ, zQ, eQ, zQ, eQ] 84
 rw [z2]
 clear z2
 have o0 := sK (Aa z0 a2.out)
 have d0 := sK (Aa o0 HF.out)
 have j3 := sK (w1.from z0)
 have p3 := sK (HR.below z0)
 have i2 := sK n2
 have n0 := k2.below o0.out
 clear p0 x0 x1 x2 x3 x4 r0 r1 r2 z0 i4 n2 HR w1 a2 l3
 obtain ⟨x0, x1, x2, x3, x4⟩ := n0.t5
 have r0 := (j0.below d0.out).cells 0 _ rfl
 have r1 := (j0.below d0.out).cells 1 _ rfl
 have r2 := (j0.below d0.out).cells 2 _ rfl
 have r3 := (j0.below d0.out).cells 3 _ rfl
 have r4 := (j0.below d0.out).cells 4 _ rfl
 go_upto_region 6 with fail
 refine wp_loop_rounds 2 ?_
 rw [rounds_succ]
 go_upto_region 8 with fail
 obtain ⟨W5, a3, j4, a0, m2⟩ := mk1 W4 #[.int .i64 1, .string { data := #[] }, .int .i64 2, eQ, eQ] 40
 rw [a3]
 clear a3
 have m0 := j2.below (Aa a0 o0.out)
 have k3 := sK (j3.from a0)
 have z3 := sK (i2.below a0)
 have g2 := sK (p3.below a0)
 have m3 := sK (Aa a0 d0.out)
 have a4 := sK (l2.below (Aa a0 o0.out))
 have a5 := i2.lt
 obtain ⟨gv, s4⟩ := xQ W3.heap.size
 have HS : Hid (∀ wx, From W5 wx -> wx.cell? ⟨w.heap.size, 0, none⟩ = some (.map (some bt)) ∧ (wx.cell? ⟨W4.heap.size, 0, none⟩ = some (.int .i64 1) ∧ wx.cell? ⟨W4.heap.size, 1, none⟩ = some (.string { data := #[] }) ∧ wx.cell? ⟨W4.heap.size, 2, none⟩ = some (.int .i64 2) ∧ wx.cell? ⟨W4.heap.size, 3, none⟩ = some (eQ) ∧ wx.cell? ⟨W4.heap.size, 4, none⟩ = some (eQ)) ∧ wx.cell? ⟨w2.heap.size, 0, none⟩ = some (.string { data := #[78] })) := sK fun wx hx => by
  have h0 := m0.below hx; have h1 := m2.below hx; have h2 := g2.below hx; exact ⟨h0.c0, ⟨h1.c0, h1.c1, h1.c2, h1.c3, h1.c4⟩, h2.c0⟩
 clear m0 n0 x0 x1 x2 x3 x4 r0 r1 r2 r3 r4 m2 a0 j4
 refine wpL 13 60 [(11, 9, 36)] [.v (.slice (sQ W3.heap.size) 1 1), .v (zQ), .v (.agg #[.map (some bt)]), .v (.agg #[.int .i64 1, .string { data := #[] }, .int .i64 2, eQ, eQ]), .v (pQ w2.heap.size), .v (.string { data := #[78] }), .v (zQ), .v (.int .u8 78), .v (.tuple #[.agg #[zQ, zQ, eQ, zQ, zQ, eQ, zQ, eQ, .int .i64 2, eQ], zQ]), .v (.tuple #[.agg #[zQ, zQ, eQ, zQ, zQ, eQ, zQ, eQ, .int .i64 2, eQ], zQ]), .v (.agg #[zQ, zQ, eQ, zQ, zQ, eQ, zQ, eQ, .int .i64 2, eQ]), .v (zQ), .v (pQ W3.heap.size)] W5 (by kernel_rfl) (by kernel_rfl) (by kernel_rfl) (by kernel_rfl) rfl ((From.refl W5).drew) (fun x g3 => ?_) (fun _ _ d9 _ _ h => by cases d9 <;> exact h) ?_
 ·simp only [qx, Kq, or_false] at g3
  rcases g3 with rfl
  ·intro a9 o9 v9 wx ho hx hv he
   obtain rfl := Aq ho; obtain rfl : v9 = _ := (hv : (IsV (.tuple #[.agg #[zQ, zQ, eQ, zQ, zQ, eQ, zQ, eQ, .int .i64 2, eQ], zQ])) v9 wx)
   exact ⟨zQ, Or.inl ⟨rfl, fun w9 => by simp only [execOp, he]; rfl⟩, rfl⟩
 simp only [Tk]
 iterate 13 (refine .z (fun wx hx _ hK => by first | (go_simp; exact Kz hK) | (have e3 := (HS wx hx).1; go_simp; exact Kz hK) | (obtain ⟨e3, a1, m4, n4, o4⟩ := (HS wx hx).2.1; go_simp; exact Kz hK) | (have e3 := (HS wx hx).2.2; go_simp; exact Kz hK) | (go_simp; refine (i3 wx).mono ?_; rintro e w' ⟨rfl, k4⟩; exact hK.out _ _ rfl k4)) ?_; simp only [Pt])
 refine .nil fun w6 i0 _ => ?_
 have j1 := sK (z3.below i0)
 have n3 := sK (Aa i0 m3.out)
 have z1 := sK (k3.from i0)
 have s3 := sK (g2.below i0)
 have b4 := sK (a4.below i0)
 obtain ⟨v0, v1, v2, v3, v4, v5, v6, v7, v8, v9⟩ := j1.t10
 obtain ⟨f0, f1, f2, f3, f4, f5, f6, f7, f8, f9⟩ := j1.u10
 go_upto_region 9 with fail
 clear i0
 obtain ⟨Z6, o1, s1, e2, w0⟩ := Ca j1 n3 (by have := t0.out; omega) [zQ, zQ, eQ, zQ, zQ, eQ, zQ, eQ, .int .i64 2, eQ] (by simp)
 simp only [putC] at o1
 rw [o1]
 clear o1
 have d4 := sK (b4.kept w0 (by have := t0.out; simp; omega))
 have s2 := s3.kept w0 (by have := t0.out; simp; omega)
 have p2 : An Z6 b1 194 #[.func (Fn.func 133) #[] #[]] := (w0.block b1 (qg.1 z1.out).1 (by have := t0.out; simp; omega)).trans z1.out
 have o3 := sK e2
 have w3 := sK (d2 Z6 W3.heap.size b1 s1 p2)
 obtain ⟨r0, r1, r2⟩ := s2.t3
 clear v0 v1 v2 v3 v4 v5 v6 v7 v8 v9 f0 f1 f2 f3 f4 f5 f6 f7 f8 f9 e2 s1 w0 p2 s2
 go_wp2
 rw [rounds_succ]
 go_wp2_with (go_at_call 187; refine w3.mono ?_; rintro e w7 ⟨rfl, d3⟩; have Y7 := d4.below d3; have y0 := Y7.c0; have u0 := Y7.free 0; have y1 := Y7.c1; have u1 := Y7.free 1; have y2 := Y7.c2; have u2 := Y7.free 2; have y3 := Y7.c3; have u3 := Y7.free 3; have y4 := Y7.c4; have u4 := Y7.free 4; have y5 := Y7.c5; have u5 := Y7.free 5; have y6 := Y7.c6; have u6 := Y7.free 6; have y7 := Y7.c7; have u7 := Y7.free 7; have y8 := Y7.c8; have u8 := Y7.free 8; have y9 := Y7.c9; have u9 := Y7.free 9)
 obtain ⟨Z, hZ, d1, e1, e4⟩ := Ca Y7 (Aa d3 o3.out) (by omega) [.int .i64 2, .int .i64 1, eQ, zQ, zQ, eQ, zQ, eQ, zQ, eQ] (by simp)
 simp only [putC] at hZ
 rw [hZ]
 clear hZ
 obtain ⟨q0, q1, q2, q3, q4, q5, q6, q7, q8, q9⟩ := d1.t10
 exact bodyPost_ret (v := .tuple #[.agg #[.int .i64 2, .int .i64 1, eQ, zQ, zQ, eQ, zQ, eQ, zQ, eQ], zQ]) (by simp [results, Tryz.results93, go_sem, q0, q1, q2, q3, q4, q5, q6, q7, q8, q9]) rfl ⟨rfl, e1⟩
end Go.Proofs.YtoalkldfhkabnaaGreatDoor
