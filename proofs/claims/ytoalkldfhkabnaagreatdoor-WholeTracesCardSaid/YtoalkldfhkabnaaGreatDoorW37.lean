/- Part of WholeTraces. -/
import Derived.OwnWalk
import Derived.Test.YtoalkldfhkabnaaGreatDoorW00
import Derived.Test.YtoalkldfhkabnaaGreatDoorW06
import Derived.Test.YtoalkldfhkabnaaGreatDoorW10
import Derived.Test.YtoalkldfhkabnaaGreatDoorW11
import Derived.Test.YtoalkldfhkabnaaGreatDoorW34
set_option linter.all false
set_option maxRecDepth 10000
set_option maxHeartbeats 16000000
namespace Go.Proofs.YtoalkldfhkabnaaGreatDoor
open Go.RowKit Fq
def pts : LQ := [[0, 0, 1], [0, 1, 0], [0, 1, 1], [1, 0, 0], [1, 0, 1], [1, 1, 0], [1, 1, 1]]
theorem jV : madeCells (Value.int .i64 0).cells 3 = #[zQ, zQ, zQ] := by kernel_rfl
theorem jJ (w : WQ) : (Instr.makeSlice 22 (.int .i64 3) (.int .i64 3)).run Tryz.prog w = .ok (.slice (sQ w.heap.size) 3 3) (w.alloc (.cells #[zQ, zQ, zQ] 3)) := by
 obtain ⟨i, h1, h2, h3, h4⟩ := info_parts Bj
 have := run_make (P := Tryz.prog) w 22 3 i _ Tryz.underlying22 h1 h2 .i64 .i64 3 3 (by omega) (by omega) (by rw [h4]; decide) (by decide)
 rw [h3, show (3 : Int).toNat * 1 = 3 from rfl, jV] at this
 exact this
theorem Ij {w : WQ} {b : Nat} {l : NQ} (h : Blk w b (l.map (fun x : Nat => nQ x)).toArray) (hs : ∀ x ∈ l, x < 1000000) (hl : l.length <= 1000) : RdN w (sQ b) l.length l.length l :=
 ⟨rfl, qb _, by unfold maxLen; omega, hs, fun _ => ⟨b, 0, rfl, h.lt, fun j hj => by
  obtain ⟨t, ht⟩ := h; rw [qbj ht (0 + j)]; simp [qa, hj]⟩⟩
theorem Fl {w : WQ} {base n c : Nat} {A B : OQ} {m d v : Nat} {l : NQ} (h : OwnN w base A n c l) (h1 : ∀ b, (Value.slice B m d).ownBlock = some b -> b < base) (h2 : v < base) : ∀ b u6, A = some ⟨b, u6, none⟩ -> 0 < l.length -> (Value.slice B m d).ownBlock ≠ some b ∧ ¬ (b = v) := fun b u6 e _ => by
 rcases h.form with ⟨h3, _⟩ | ⟨g, h3, h4, _⟩
 ·rw [h3] at e; cases e
 ·rw [h3] at e
  simp only [qc, qd, and_true] at e; exact ⟨fun e2 => by have := h1 b e2; omega, by omega⟩
theorem aM (w : WQ) : cQ 291 #[f2V, .int .i64 3] w (fun e w' => ∃ A c, e = .returned (.tuple #[.slice A 7 c, zQ]) ∧ RdM w' A 7 c pts ∧ From w w') := by
 have o7 := jJ
 obtain ⟨i1, hj, r0, t0, w0⟩ := info_parts Eg
 have r5 : Hid (∀ wx, cQ 54 #[f2V] wx (Zs F2 wx)) := sK fun wx => Mp wx F2 Ew none 0 (RdN.nil wx 0 (by unfold maxLen; omega))
 have q0 := sK Gn
 unfold Zs f2V at r5
 unfold RetC at q0
 unfold f2V
 go_enter Tryz.func291, Tryz.ntmps291
 go_upto_region 1 with fail
 obtain ⟨W, hW, a7, k6, b0⟩ := mk1 w #[.int .i64 2, .int .i64 1, eQ] 24
 rw [hW]
 clear hW
 obtain ⟨c0, c1, c2⟩ := b0.t3
 have HF := sK k6
 clear b0 k6 a7
 go_upto_region 6 with (go_at_call 54; refine (r5 _).mono ?_; rintro e w2 ⟨bg, rfl, _, m6, l6⟩)
 have HO : Hid (cQ 109 #[pQ bg] w2 (Ba (.int .i64 2) w2)) := sK (Ir w2 bg F2 m6.gf)
 unfold Ba at HO
 have r3 := sK (Aa l6 HF.out)
 clear m6 l6 HF c0 c1 c2
 go_upto_region 7 with (go_at_call 109; refine HO.mono ?_; rintro e w' ⟨rfl, rfl⟩)
 clear HO
 go_wp2
 refine wp_loop_rounds 4 ?_
 rw [rounds_succ]
 go_wp2
 rw [rounds_succ]
 go_wp2
 rw [rounds_succ]
 go_wp2
 rw [rounds_succ]
 go_upto_region 16 with (refine wpList_make_own _ rfl _ _ 25 rfl 0 22 i1 _ 1 Tryz.underlying25 hj r0 t0 .i64 .i64 7 7 rfl rfl rfl (by rw [w0]; decide) (by decide) (qe _) ?_; intro w3 v4 g1)
 have p5 := sK (Aa (show From w2 w3 from ⟨g1.os, g1.tape, g1.output, g1.size, fun k hk => g1.block k hk (by simp)⟩) r3.out)
 have s5 : Hid (∀ X : Nat -> Prop, (∀ b, X b -> w3.heap.size <= b) -> Bo w3 w2.heap.size X (sQ w2.heap.size) 0 7 []) := sK fun X hX => Bo.made v4 (qb _) (fun h => by have := hX _ h; have := (v4.lt w2.heap.size rfl).2; omega)
 have j1 : w.heap.size <= w2.heap.size := r3.size
 have p7 : w2.heap.size <= w3.heap.size := g1.size
 clear r3 v4 g1
 go_wp2
 refine wp_loop_rounds 4 ?_
 rw [rounds_succ]
 go_upto_region 20 with fail
 obtain ⟨i3, h6, x6, p4, o0⟩ := mk1 w3 #[zQ, zQ, zQ] 3
 rw [h6]
 clear h6
 obtain ⟨n0, s4⟩ : ∃ bv, bv = w3.heap.size := ⟨_, rfl⟩
 rw [<- s4] at o0
 rw [<- s4]
 have i7 : w2.heap.size <= n0 := by omega
 have l7 : n0 < i3.heap.size := by omega
 have r2 := sK o0
 have t5 : Hid (Bo i3 w2.heap.size (· = n0) (sQ w2.heap.size) 0 7 []) := sK ((s5 (· = n0) (fun b e => by have e : b = n0 := e; omega)).below p4)
 have w4 := sK (Aa p4 p5.out)
 clear s5 p5
 clear o0 p4 x6 s4
 obtain ⟨v0, v1, v2⟩ := r2.t3
 obtain ⟨f0, f1, f2⟩ := r2.u3
 go_upto_region 21 with fail
 obtain ⟨k1, y1⟩ : ∃ W9, W9 = i3.setCell ⟨n0, 2, none⟩ (.int .i64 1) := ⟨_, rfl⟩
 have x0 : Hid (Blk k1 n0 #[zQ, zQ, .int .i64 1]) := sK (by rw [y1]; simpa using r2.set 2 (.int .i64 1))
 have s3 : Hid (Bo k1 w2.heap.size (· = n0) (sQ w2.heap.size) 0 7 []) := sK (by rw [y1]; exact t5.grown (Ad i3 n0 2 _) (fun b e => by simpa using e.symm))
 have x4 : Hid (From w k1) := sK (by rw [y1]; exact w4.setCell (p := ⟨n0, 2, none⟩) (by show _ <= n0; omega) _)
 rw [<- y1]
 clear y1 r2 t5 w4 v0 v1 v2 f0 f1 f2
 obtain ⟨v0, v1, v2⟩ := x0.t3
 obtain ⟨f0, f1, f2⟩ := x0.u3
 refine wp_loop_rounds 1 ?_
 rw [rounds_succ]
 have n6 : RdN k1 (sQ n0) 3 3 [0, 0, 1] := Ij (l := [0, 0, 1]) x0 (by decide) (by decide)
 have b7 : w2.heap.size <= k1.heap.size ∧ n0 < k1.heap.size := ⟨by have := x0.lt; omega, x0.lt⟩
 clear v0 v1 v2 f0 f1 f2
 go_upto_region 22 with (first
  | (go_at_call 125; refine (q0 _ _ 3 3 [0, 0, 1] n6 (by omega)).mono ?_; rintro e w9 ⟨A9, c9, rfl, m0, j0, d0⟩)
  | (refine Br rfl (.tmp 52) (.tmp 55) 25 rfl i1 Tryz.underlying25 hj r0 t0 w0 w2.heap.size (· = n0) (sQ w2.heap.size) 0 7 [] rfl ((s3.below d0).below (Ac w9 _)) w9.heap.size rfl A9 c9 [0, 0, 1] ((An.new w9 #[.slice A9 3 c9] 22).cell 0) (m0.alloc _) (Fl (j0 (by omega)) (fun b hb => by have := (s3.own b hb).2; omega) (by omega)) (by omega) (fun b e => by have e : b = n0 := e; have := d0.size; simp; omega) (by have := d0.size; simp; omega) ?_; intro o2 l3 c4 h0 i0 l0 g0))
 have u5 : Hid (Bo c4 w2.heap.size (· = n0) o2 1 l3 [[0, 0, 1]]) := sK h0
 have s2 := sK (((x0.below d0).below (Ac w9 (.cells #[.slice A9 3 c9] 22))).kept i0 (fun e => (l0 n0 e).1 rfl))
 have y4 := sK (g0 w j1 (Aa (Ac w9 _) (Aa d0 x4.out)))
 clear s3 x0 x4 n6 h0 i0 l0 g0 m0 j0 d0 b7
 obtain ⟨v0, v1, v2⟩ := s2.t3
 obtain ⟨f0, f1, f2⟩ := s2.u3
 go_wp2
 refine wp_loop_rounds 1 ?_
 rw [rounds_succ]
 go_wp2
 clear v0 v1 v2 f0 f1 f2
 rw [rounds_succ]
 go_upto_region 20 with fail
 obtain ⟨j3, i6, y6, q4, o0⟩ := mk1 c4 #[zQ, zQ, zQ] 3
 rw [i6]
 clear i6
 have q7 := s2.lt
 obtain ⟨e0, t4⟩ : ∃ bv, bv = c4.heap.size := ⟨_, rfl⟩
 rw [<- t4] at o0
 rw [<- t4]
 have j7 : w2.heap.size <= e0 := by omega
 have m7 : e0 < j3.heap.size := by omega
 have t2 := sK o0
 have v5 : Hid (Bo j3 w2.heap.size (· = e0) o2 1 l3 [[0, 0, 1]]) := sK ((u5.less (Y := (· = e0)) (fun b e => .inr (by have e : b = e0 := e; omega))).below q4)
 have z4 := sK (Aa q4 y4.out)
 clear u5 y4 s2
 clear o0 q4 y6 t4
 obtain ⟨v0, v1, v2⟩ := t2.t3
 obtain ⟨f0, f1, f2⟩ := t2.u3
 go_upto_region 21 with fail
 obtain ⟨l1, z1⟩ : ∃ W9, W9 = j3.setCell ⟨e0, 1, none⟩ (.int .i64 1) := ⟨_, rfl⟩
 have y0 : Hid (Blk l1 e0 #[zQ, .int .i64 1, zQ]) := sK (by rw [z1]; simpa using t2.set 1 (.int .i64 1))
 have v3 : Hid (Bo l1 w2.heap.size (· = e0) o2 1 l3 [[0, 0, 1]]) := sK (by rw [z1]; exact v5.grown (Ad j3 e0 1 _) (fun b e => by simpa using e.symm))
 have a5 : Hid (From w l1) := sK (by rw [z1]; exact z4.setCell (p := ⟨e0, 1, none⟩) (by show _ <= e0; omega) _)
 rw [<- z1]
 clear z1 t2 v5 z4 v0 v1 v2 f0 f1 f2
 obtain ⟨v0, v1, v2⟩ := y0.t3
 obtain ⟨f0, f1, f2⟩ := y0.u3
 refine wp_loop_rounds 2 ?_
 rw [rounds_succ]
 have o6 : RdN l1 (sQ e0) 3 3 [0, 1, 0] := Ij (l := [0, 1, 0]) y0 (by decide) (by decide)
 have c7 : w2.heap.size <= l1.heap.size ∧ e0 < l1.heap.size := ⟨by have := y0.lt; omega, y0.lt⟩
 clear v0 v1 v2 f0 f1 f2
 go_upto_region 22 with (first
  | (go_at_call 125; refine (q0 _ _ 3 3 [0, 1, 0] o6 (by omega)).mono ?_; rintro e w9 ⟨A9, c9, rfl, m0, j0, d0⟩)
  | (refine Br rfl (.tmp 52) (.tmp 55) 25 rfl i1 Tryz.underlying25 hj r0 t0 w0 w2.heap.size (· = e0) o2 1 l3 [[0, 0, 1]] rfl ((v3.below d0).below (Ac w9 _)) w9.heap.size rfl A9 c9 [0, 1, 0] ((An.new w9 #[.slice A9 3 c9] 22).cell 0) (m0.alloc _) (Fl (j0 (by omega)) (fun b hb => by have := (v3.own b hb).2; omega) (by omega)) (by omega) (fun b e => by have e : b = e0 := e; have := d0.size; simp; omega) (by have := d0.size; simp; omega) ?_; intro n3 l4 d4 h0 i0 l0 g0))
 have w5 : Hid (Bo d4 w2.heap.size (· = e0) n3 2 l4 [[0, 0, 1], [0, 1, 0]]) := sK h0
 have u2 := sK (((y0.below d0).below (Ac w9 (.cells #[.slice A9 3 c9] 22))).kept i0 (fun e => (l0 e0 e).1 rfl))
 have b5 := sK (g0 w j1 (Aa (Ac w9 _) (Aa d0 a5.out)))
 clear v3 y0 a5 o6 h0 i0 l0 g0 m0 j0 d0 c7
 obtain ⟨v0, v1, v2⟩ := u2.t3
 obtain ⟨f0, f1, f2⟩ := u2.u3
 go_wp2
 refine wp_loop_rounds 1 ?_
 rw [rounds_succ]
 go_wp2
 obtain ⟨m1, a2⟩ : ∃ W9, W9 = d4.setCell ⟨e0, 2, none⟩ (.int .i64 1) := ⟨_, rfl⟩
 have z0 : Hid (Blk m1 e0 #[zQ, .int .i64 1, .int .i64 1]) := sK (by rw [a2]; simpa using u2.set 2 (.int .i64 1))
 have x3 : Hid (Bo m1 w2.heap.size (· = e0) n3 2 l4 [[0, 0, 1], [0, 1, 0]]) := sK (by rw [a2]; exact w5.grown (Ad d4 e0 2 _) (fun b e => by simpa using e.symm))
 have c5 : Hid (From w m1) := sK (by rw [a2]; exact b5.setCell (p := ⟨e0, 2, none⟩) (by show _ <= e0; omega) _)
 rw [<- a2]
 clear a2 u2 w5 b5 v0 v1 v2 f0 f1 f2
 obtain ⟨v0, v1, v2⟩ := z0.t3
 obtain ⟨f0, f1, f2⟩ := z0.u3
 rw [rounds_succ]
 have p6 : RdN m1 (sQ e0) 3 3 [0, 1, 1] := Ij (l := [0, 1, 1]) z0 (by decide) (by decide)
 have d7 : w2.heap.size <= m1.heap.size ∧ e0 < m1.heap.size := ⟨by have := z0.lt; omega, z0.lt⟩
 clear v0 v1 v2 f0 f1 f2
 go_upto_region 22 with (first
  | (go_at_call 125; refine (q0 _ _ 3 3 [0, 1, 1] p6 (by omega)).mono ?_; rintro e w9 ⟨A9, c9, rfl, m0, j0, d0⟩)
  | (refine Br rfl (.tmp 52) (.tmp 55) 25 rfl i1 Tryz.underlying25 hj r0 t0 w0 w2.heap.size (· = e0) n3 2 l4 [[0, 0, 1], [0, 1, 0]] rfl ((x3.below d0).below (Ac w9 _)) w9.heap.size rfl A9 c9 [0, 1, 1] ((An.new w9 #[.slice A9 3 c9] 22).cell 0) (m0.alloc _) (Fl (j0 (by omega)) (fun b hb => by have := (x3.own b hb).2; omega) (by omega)) (by omega) (fun b e => by have e : b = e0 := e; have := d0.size; simp; omega) (by have := d0.size; simp; omega) ?_; intro s1 x1 e4 h0 i0 l0 g0))
 have x5 : Hid (Bo e4 w2.heap.size (· = e0) s1 3 x1 [[0, 0, 1], [0, 1, 0], [0, 1, 1]]) := sK h0
 have x2 := sK (((z0.below d0).below (Ac w9 (.cells #[.slice A9 3 c9] 22))).kept i0 (fun e => (l0 e0 e).1 rfl))
 have d5 := sK (g0 w j1 (Aa (Ac w9 _) (Aa d0 c5.out)))
 clear x3 z0 c5 p6 h0 i0 l0 g0 m0 j0 d0 d7
 obtain ⟨v0, v1, v2⟩ := x2.t3
 obtain ⟨f0, f1, f2⟩ := x2.u3
 go_wp2
 refine wp_loop_rounds 2 ?_
 rw [rounds_succ]
 go_upto_region 25 with fail
 obtain ⟨t1, d2⟩ : ∃ W9, W9 = e4.setCell ⟨e0, 2, none⟩ (zQ) := ⟨_, rfl⟩
 have y2 : Hid (Blk t1 e0 #[zQ, .int .i64 1, zQ]) := sK (by rw [d2]; simpa using x2.set 2 (zQ))
 have y5 : Hid (Bo t1 w2.heap.size (· = e0) s1 3 x1 [[0, 0, 1], [0, 1, 0], [0, 1, 1]]) := sK (by rw [d2]; exact x5.grown (Ad e4 e0 2 _) (fun b e => by simpa using e.symm))
 have e5 : Hid (From w t1) := sK (by rw [d2]; exact d5.setCell (p := ⟨e0, 2, none⟩) (by show _ <= e0; omega) _)
 rw [<- d2]
 clear d2 x2 x5 d5 v0 v1 v2 f0 f1 f2
 obtain ⟨v0, v1, v2⟩ := y2.t3
 obtain ⟨f0, f1, f2⟩ := y2.u3
 go_wp2
 rw [rounds_succ]
 go_wp2
 clear v0 v1 v2 f0 f1 f2
 rw [rounds_succ]
 go_upto_region 20 with fail
 obtain ⟨k3, j6, z6, r4, o0⟩ := mk1 t1 #[zQ, zQ, zQ] 3
 rw [j6]
 clear j6
 have r7 := y2.lt
 obtain ⟨a0, u4⟩ : ∃ bv, bv = t1.heap.size := ⟨_, rfl⟩
 rw [<- u4] at o0
 rw [<- u4]
 have k7 : w2.heap.size <= a0 := by omega
 have n7 : a0 < k3.heap.size := by omega
 have z2 := sK o0
 have z5 : Hid (Bo k3 w2.heap.size (· = a0) s1 3 x1 [[0, 0, 1], [0, 1, 0], [0, 1, 1]]) := sK ((y5.less (Y := (· = a0)) (fun b e => .inr (by have e : b = a0 := e; omega))).below r4)
 have f5 := sK (Aa r4 e5.out)
 clear y5 e5 y2
 clear o0 r4 z6 u4
 obtain ⟨v0, v1, v2⟩ := z2.t3
 obtain ⟨f0, f1, f2⟩ := z2.u3
 go_upto_region 21 with fail
 obtain ⟨n1, g2⟩ : ∃ W9, W9 = k3.setCell ⟨a0, 0, none⟩ (.int .i64 1) := ⟨_, rfl⟩
 have a1 : Hid (Blk n1 a0 #[.int .i64 1, zQ, zQ]) := sK (by rw [g2]; simpa using z2.set 0 (.int .i64 1))
 have y3 : Hid (Bo n1 w2.heap.size (· = a0) s1 3 x1 [[0, 0, 1], [0, 1, 0], [0, 1, 1]]) := sK (by rw [g2]; exact z5.grown (Ad k3 a0 0 _) (fun b e => by simpa using e.symm))
 have g5 : Hid (From w n1) := sK (by rw [g2]; exact f5.setCell (p := ⟨a0, 0, none⟩) (by show _ <= a0; omega) _)
 rw [<- g2]
 clear g2 z2 z5 f5 v0 v1 v2 f0 f1 f2
 obtain ⟨v0, v1, v2⟩ := a1.t3
 obtain ⟨f0, f1, f2⟩ := a1.u3
 refine wp_loop_rounds 4 ?_
 rw [rounds_succ]
 have q6 : RdN n1 (sQ a0) 3 3 [1, 0, 0] := Ij (l := [1, 0, 0]) a1 (by decide) (by decide)
 have e7 : w2.heap.size <= n1.heap.size ∧ a0 < n1.heap.size := ⟨by have := a1.lt; omega, a1.lt⟩
 clear v0 v1 v2 f0 f1 f2
 go_upto_region 22 with (first
  | (go_at_call 125; refine (q0 _ _ 3 3 [1, 0, 0] q6 (by omega)).mono ?_; rintro e w9 ⟨A9, c9, rfl, m0, j0, d0⟩)
  | (refine Br rfl (.tmp 52) (.tmp 55) 25 rfl i1 Tryz.underlying25 hj r0 t0 w0 w2.heap.size (· = a0) s1 3 x1 [[0, 0, 1], [0, 1, 0], [0, 1, 1]] rfl ((y3.below d0).below (Ac w9 _)) w9.heap.size rfl A9 c9 [1, 0, 0] ((An.new w9 #[.slice A9 3 c9] 22).cell 0) (m0.alloc _) (Fl (j0 (by omega)) (fun b hb => by have := (y3.own b hb).2; omega) (by omega)) (by omega) (fun b e => by have e : b = a0 := e; have := d0.size; simp; omega) (by have := d0.size; simp; omega) ?_; intro o3 m4 f4 h0 i0 l0 g0))
 have a6 : Hid (Bo f4 w2.heap.size (· = a0) o3 4 m4 [[0, 0, 1], [0, 1, 0], [0, 1, 1], [1, 0, 0]]) := sK h0
 have a3 := sK (((a1.below d0).below (Ac w9 (.cells #[.slice A9 3 c9] 22))).kept i0 (fun e => (l0 a0 e).1 rfl))
 have h5 := sK (g0 w j1 (Aa (Ac w9 _) (Aa d0 g5.out)))
 clear y3 a1 g5 q6 h0 i0 l0 g0 m0 j0 d0 e7
 obtain ⟨v0, v1, v2⟩ := a3.t3
 obtain ⟨f0, f1, f2⟩ := a3.u3
 go_wp2
 refine wp_loop_rounds 1 ?_
 rw [rounds_succ]
 go_wp2
 obtain ⟨o1, i2⟩ : ∃ W9, W9 = f4.setCell ⟨a0, 2, none⟩ (.int .i64 1) := ⟨_, rfl⟩
 have b1 : Hid (Blk o1 a0 #[.int .i64 1, zQ, .int .i64 1]) := sK (by rw [i2]; simpa using a3.set 2 (.int .i64 1))
 have z3 : Hid (Bo o1 w2.heap.size (· = a0) o3 4 m4 [[0, 0, 1], [0, 1, 0], [0, 1, 1], [1, 0, 0]]) := sK (by rw [i2]; exact a6.grown (Ad f4 a0 2 _) (fun b e => by simpa using e.symm))
 have i5 : Hid (From w o1) := sK (by rw [i2]; exact h5.setCell (p := ⟨a0, 2, none⟩) (by show _ <= a0; omega) _)
 rw [<- i2]
 clear i2 a3 a6 h5 v0 v1 v2 f0 f1 f2
 obtain ⟨v0, v1, v2⟩ := b1.t3
 obtain ⟨f0, f1, f2⟩ := b1.u3
 rw [rounds_succ]
 have r6 : RdN o1 (sQ a0) 3 3 [1, 0, 1] := Ij (l := [1, 0, 1]) b1 (by decide) (by decide)
 have f7 : w2.heap.size <= o1.heap.size ∧ a0 < o1.heap.size := ⟨by have := b1.lt; omega, b1.lt⟩
 clear v0 v1 v2 f0 f1 f2
 go_upto_region 22 with (first
  | (go_at_call 125; refine (q0 _ _ 3 3 [1, 0, 1] r6 (by omega)).mono ?_; rintro e w9 ⟨A9, c9, rfl, m0, j0, d0⟩)
  | (refine Br rfl (.tmp 52) (.tmp 55) 25 rfl i1 Tryz.underlying25 hj r0 t0 w0 w2.heap.size (· = a0) o3 4 m4 [[0, 0, 1], [0, 1, 0], [0, 1, 1], [1, 0, 0]] rfl ((z3.below d0).below (Ac w9 _)) w9.heap.size rfl A9 c9 [1, 0, 1] ((An.new w9 #[.slice A9 3 c9] 22).cell 0) (m0.alloc _) (Fl (j0 (by omega)) (fun b hb => by have := (z3.own b hb).2; omega) (by omega)) (by omega) (fun b e => by have e : b = a0 := e; have := d0.size; simp; omega) (by have := d0.size; simp; omega) ?_; intro p2 m3 g4 h0 i0 l0 g0))
 have b6 : Hid (Bo g4 w2.heap.size (· = a0) p2 5 m3 [[0, 0, 1], [0, 1, 0], [0, 1, 1], [1, 0, 0], [1, 0, 1]]) := sK h0
 have c3 := sK (((b1.below d0).below (Ac w9 (.cells #[.slice A9 3 c9] 22))).kept i0 (fun e => (l0 a0 e).1 rfl))
 have j5 := sK (g0 w j1 (Aa (Ac w9 _) (Aa d0 i5.out)))
 clear z3 b1 i5 r6 h0 i0 l0 g0 m0 j0 d0 f7
 obtain ⟨v0, v1, v2⟩ := c3.t3
 obtain ⟨f0, f1, f2⟩ := c3.u3
 go_wp2
 refine wp_loop_rounds 2 ?_
 rw [rounds_succ]
 go_upto_region 25 with fail
 obtain ⟨u1, j2⟩ : ∃ W9, W9 = g4.setCell ⟨a0, 2, none⟩ (zQ) := ⟨_, rfl⟩
 have d3 : Hid (Blk u1 a0 #[.int .i64 1, zQ, zQ]) := sK (by rw [j2]; simpa using c3.set 2 (zQ))
 have c6 : Hid (Bo u1 w2.heap.size (· = a0) p2 5 m3 [[0, 0, 1], [0, 1, 0], [0, 1, 1], [1, 0, 0], [1, 0, 1]]) := sK (by rw [j2]; exact b6.grown (Ad g4 a0 2 _) (fun b e => by simpa using e.symm))
 have k5 : Hid (From w u1) := sK (by rw [j2]; exact j5.setCell (p := ⟨a0, 2, none⟩) (by show _ <= a0; omega) _)
 rw [<- j2]
 clear j2 c3 b6 j5 v0 v1 v2 f0 f1 f2
 obtain ⟨v0, v1, v2⟩ := d3.t3
 obtain ⟨f0, f1, f2⟩ := d3.u3
 go_wp2
 rw [rounds_succ]
 go_wp2
 obtain ⟨q1, k2⟩ : ∃ W9, W9 = u1.setCell ⟨a0, 1, none⟩ (.int .i64 1) := ⟨_, rfl⟩
 have d1 : Hid (Blk q1 a0 #[.int .i64 1, .int .i64 1, zQ]) := sK (by rw [k2]; simpa using d3.set 1 (.int .i64 1))
 have a4 : Hid (Bo q1 w2.heap.size (· = a0) p2 5 m3 [[0, 0, 1], [0, 1, 0], [0, 1, 1], [1, 0, 0], [1, 0, 1]]) := sK (by rw [k2]; exact c6.grown (Ad u1 a0 1 _) (fun b e => by simpa using e.symm))
 have l5 : Hid (From w q1) := sK (by rw [k2]; exact k5.setCell (p := ⟨a0, 1, none⟩) (by show _ <= a0; omega) _)
 rw [<- k2]
 clear k2 d3 c6 k5 v0 v1 v2 f0 f1 f2
 obtain ⟨v0, v1, v2⟩ := d1.t3
 obtain ⟨f0, f1, f2⟩ := d1.u3
 rw [rounds_succ]
 have s6 : RdN q1 (sQ a0) 3 3 [1, 1, 0] := Ij (l := [1, 1, 0]) d1 (by decide) (by decide)
 have g7 : w2.heap.size <= q1.heap.size ∧ a0 < q1.heap.size := ⟨by have := d1.lt; omega, d1.lt⟩
 clear v0 v1 v2 f0 f1 f2
 go_upto_region 22 with (first
  | (go_at_call 125; refine (q0 _ _ 3 3 [1, 1, 0] s6 (by omega)).mono ?_; rintro e w9 ⟨A9, c9, rfl, m0, j0, d0⟩)
  | (refine Br rfl (.tmp 52) (.tmp 55) 25 rfl i1 Tryz.underlying25 hj r0 t0 w0 w2.heap.size (· = a0) p2 5 m3 [[0, 0, 1], [0, 1, 0], [0, 1, 1], [1, 0, 0], [1, 0, 1]] rfl ((a4.below d0).below (Ac w9 _)) w9.heap.size rfl A9 c9 [1, 1, 0] ((An.new w9 #[.slice A9 3 c9] 22).cell 0) (m0.alloc _) (Fl (j0 (by omega)) (fun b hb => by have := (a4.own b hb).2; omega) (by omega)) (by omega) (fun b e => by have e : b = a0 := e; have := d0.size; simp; omega) (by have := d0.size; simp; omega) ?_; intro p3 n4 i4 h0 i0 l0 g0))
 have d6 : Hid (Bo i4 w2.heap.size (· = a0) p3 6 n4 [[0, 0, 1], [0, 1, 0], [0, 1, 1], [1, 0, 0], [1, 0, 1], [1, 1, 0]]) := sK h0
 have e3 := sK (((d1.below d0).below (Ac w9 (.cells #[.slice A9 3 c9] 22))).kept i0 (fun e => (l0 a0 e).1 rfl))
 have m5 := sK (g0 w j1 (Aa (Ac w9 _) (Aa d0 l5.out)))
 clear a4 d1 l5 s6 h0 i0 l0 g0 m0 j0 d0 g7
 obtain ⟨v0, v1, v2⟩ := e3.t3
 obtain ⟨f0, f1, f2⟩ := e3.u3
 go_wp2
 refine wp_loop_rounds 1 ?_
 rw [rounds_succ]
 go_wp2
 obtain ⟨r1, l2⟩ : ∃ W9, W9 = i4.setCell ⟨a0, 2, none⟩ (.int .i64 1) := ⟨_, rfl⟩
 have e1 : Hid (Blk r1 a0 #[.int .i64 1, .int .i64 1, .int .i64 1]) := sK (by rw [l2]; simpa using e3.set 2 (.int .i64 1))
 have b4 : Hid (Bo r1 w2.heap.size (· = a0) p3 6 n4 [[0, 0, 1], [0, 1, 0], [0, 1, 1], [1, 0, 0], [1, 0, 1], [1, 1, 0]]) := sK (by rw [l2]; exact d6.grown (Ad i4 a0 2 _) (fun b e => by simpa using e.symm))
 have n5 : Hid (From w r1) := sK (by rw [l2]; exact m5.setCell (p := ⟨a0, 2, none⟩) (by show _ <= a0; omega) _)
 rw [<- l2]
 clear l2 e3 d6 m5 v0 v1 v2 f0 f1 f2
 obtain ⟨v0, v1, v2⟩ := e1.t3
 obtain ⟨f0, f1, f2⟩ := e1.u3
 rw [rounds_succ]
 have t6 : RdN r1 (sQ a0) 3 3 [1, 1, 1] := Ij (l := [1, 1, 1]) e1 (by decide) (by decide)
 have h7 : w2.heap.size <= r1.heap.size ∧ a0 < r1.heap.size := ⟨by have := e1.lt; omega, e1.lt⟩
 clear v0 v1 v2 f0 f1 f2
 go_upto_region 22 with (first
  | (go_at_call 125; refine (q0 _ _ 3 3 [1, 1, 1] t6 (by omega)).mono ?_; rintro e w9 ⟨A9, c9, rfl, m0, j0, d0⟩)
  | (refine Br rfl (.tmp 52) (.tmp 55) 25 rfl i1 Tryz.underlying25 hj r0 t0 w0 w2.heap.size (· = a0) p3 6 n4 [[0, 0, 1], [0, 1, 0], [0, 1, 1], [1, 0, 0], [1, 0, 1], [1, 1, 0]] rfl ((b4.below d0).below (Ac w9 _)) w9.heap.size rfl A9 c9 [1, 1, 1] ((An.new w9 #[.slice A9 3 c9] 22).cell 0) (m0.alloc _) (Fl (j0 (by omega)) (fun b hb => by have := (b4.own b hb).2; omega) (by omega)) (by omega) (fun b e => by have e : b = a0 := e; have := d0.size; simp; omega) (by have := d0.size; simp; omega) ?_; intro q3 o4 j4 h0 i0 l0 g0))
 have e6 : Hid (Bo j4 w2.heap.size (· = a0) q3 7 o4 [[0, 0, 1], [0, 1, 0], [0, 1, 1], [1, 0, 0], [1, 0, 1], [1, 1, 0], [1, 1, 1]]) := sK h0
 have f3 := sK (((e1.below d0).below (Ac w9 (.cells #[.slice A9 3 c9] 22))).kept i0 (fun e => (l0 a0 e).1 rfl))
 have o5 := sK (g0 w j1 (Aa (Ac w9 _) (Aa d0 n5.out)))
 clear b4 e1 n5 t6 h0 i0 l0 g0 m0 j0 d0 h7
 obtain ⟨v0, v1, v2⟩ := f3.t3
 obtain ⟨f0, f1, f2⟩ := f3.u3
 go_wp2
 refine wp_loop_rounds 3 ?_
 rw [rounds_succ]
 go_upto_region 25 with fail
 obtain ⟨w1, m2⟩ : ∃ W9, W9 = j4.setCell ⟨a0, 2, none⟩ (zQ) := ⟨_, rfl⟩
 have g3 : Hid (Blk w1 a0 #[.int .i64 1, .int .i64 1, zQ]) := sK (by rw [m2]; simpa using f3.set 2 (zQ))
 have f6 : Hid (Bo w1 w2.heap.size (· = a0) q3 7 o4 [[0, 0, 1], [0, 1, 0], [0, 1, 1], [1, 0, 0], [1, 0, 1], [1, 1, 0], [1, 1, 1]]) := sK (by rw [m2]; exact e6.grown (Ad j4 a0 2 _) (fun b e => by simpa using e.symm))
 have q5 : Hid (From w w1) := sK (by rw [m2]; exact o5.setCell (p := ⟨a0, 2, none⟩) (by show _ <= a0; omega) _)
 rw [<- m2]
 clear m2 f3 e6 o5 v0 v1 v2 f0 f1 f2
 obtain ⟨v0, v1, v2⟩ := g3.t3
 obtain ⟨f0, f1, f2⟩ := g3.u3
 go_wp2
 rw [rounds_succ]
 go_upto_region 25 with fail
 obtain ⟨k4, n2⟩ : ∃ W9, W9 = w1.setCell ⟨a0, 1, none⟩ (zQ) := ⟨_, rfl⟩
 have g6 : Hid (Blk k4 a0 #[.int .i64 1, zQ, zQ]) := sK (by rw [n2]; simpa using g3.set 1 (zQ))
 have w6 : Hid (Bo k4 w2.heap.size (· = a0) q3 7 o4 [[0, 0, 1], [0, 1, 0], [0, 1, 1], [1, 0, 0], [1, 0, 1], [1, 1, 0], [1, 1, 1]]) := sK (by rw [n2]; exact f6.grown (Ad w1 a0 1 _) (fun b e => by simpa using e.symm))
 have v6 : Hid (From w k4) := sK (by rw [n2]; exact q5.setCell (p := ⟨a0, 1, none⟩) (by show _ <= a0; omega) _)
 rw [<- n2]
 clear n2 g3 f6 q5 v0 v1 v2 f0 f1 f2
 obtain ⟨v0, v1, v2⟩ := g6.t3
 obtain ⟨f0, f1, f2⟩ := g6.u3
 go_wp2
 rw [rounds_succ]
 go_wp2
 rw [rounds_succ]
 go_wp2
 go_ret2
 exact ⟨_, _, rfl, w6.rd, v6.out⟩
end Go.Proofs.YtoalkldfhkabnaaGreatDoor
