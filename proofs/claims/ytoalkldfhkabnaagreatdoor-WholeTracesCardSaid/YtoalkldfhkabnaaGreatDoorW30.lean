/- Part of WholeTraces. -/
import Derived.Deep.RegionLaw
import Derived.Deep.CutRange
import Derived.Test.YtoalkldfhkabnaaGreatDoorW00
import Derived.Test.YtoalkldfhkabnaaGreatDoorW10
import Derived.Test.YtoalkldfhkabnaaGreatDoorW17
import Derived.Test.YtoalkldfhkabnaaGreatDoorW27
import Derived.Test.YtoalkldfhkabnaaGreatDoorW29
set_option linter.all false
set_option maxRecDepth 10000
set_option maxHeartbeats 16000000
namespace Go.Proofs.YtoalkldfhkabnaaGreatDoor
open Go.RowKit Fq
def tk (i : Nat) : Tok := T0.getD i ⟨0, { data := #[] }, 0, 0⟩
structure PS (w : WQ) (p g c i nd : Nat) : Prop where
 blk : Blk w p #[.slice (sQ g) 9 c, nQ i, .int .i64 17, nQ nd]
 tok : ∀ j, j < 9 -> w.cell? ⟨g, j * 4, none⟩ = some (.int .i64 (tk j).k) ∧ w.cell? ⟨g, j * 4 + 1, none⟩ = some (.string (tk j).t) ∧ w.cell? ⟨g, j * 4 + 2, none⟩ = some (.int .i64 (tk j).n) ∧ w.cell? ⟨g, j * 4 + 3, none⟩ = some (.int .i64 (tk j).a)
 glt : g < w.heap.size
 ne : p ≠ g
 cap : 9 <= c
 max : c <= maxLen
section
variable {w w' : WQ} {p g c i nd : Nat}
theorem PS.below (h : PS w p g c i nd) (hb : From w w') : PS w' p g c i nd :=
 ⟨h.blk.below hb, fun j hj => by
  obtain ⟨h1, h2, h3, h4⟩ := h.tok j hj; exact ⟨(hb.cell (p := ⟨g, j * 4, none⟩) h.glt).trans h1, (hb.cell (p := ⟨g, j * 4 + 1, none⟩) h.glt).trans h2, (hb.cell (p := ⟨g, j * 4 + 2, none⟩) h.glt).trans h3, (hb.cell (p := ⟨g, j * 4 + 3, none⟩) h.glt).trans h4⟩, qk h.glt hb.size, h.ne, h.cap, h.max⟩
theorem PS.kept (h : PS w p g c i nd) {r : Option Nat} (hg : w.grownBy w' r) (h1 : r ≠ some p) (h2 : r ≠ some g) : PS w' p g c i nd :=
 ⟨h.blk.kept hg h1, fun j hj => by
  obtain ⟨e1, e2, e3, e4⟩ := h.tok j hj; exact ⟨hg.cell e1 fun e => h2 e.symm, hg.cell e2 fun e => h2 e.symm, hg.cell e3 fun e => h2 e.symm, hg.cell e4 fun e => h2 e.symm⟩, qk h.glt hg.size, h.ne, h.cap, h.max⟩
theorem PS.setI (h : PS w p g c i nd) (k : Nat) : PS (w.setCell ⟨p, 1, none⟩ (nQ k)) p g c k nd := by
 have hg := Ad w p 1 (nQ k)
 refine ⟨by simpa using h.blk.set 1 (nQ k), fun j hj => ?_, qk h.glt hg.size, h.ne, h.cap, h.max⟩
 obtain ⟨e1, e2, e3, e4⟩ := h.tok j hj
 have hn : g ≠ p := fun e => h.ne e.symm
 exact ⟨hg.cell e1 (by simpa using hn), hg.cell e2 (by simpa using hn), hg.cell e3 (by simpa using hn), hg.cell e4 (by simpa using hn)⟩
theorem PS.setN (h : PS w p g c i nd) (k : Nat) : PS (w.setCell ⟨p, 3, none⟩ (nQ k)) p g c i k := by
 have hg := Ad w p 3 (nQ k)
 refine ⟨by simpa using h.blk.set 3 (nQ k), fun j hj => ?_, qk h.glt hg.size, h.ne, h.cap, h.max⟩
 obtain ⟨e1, e2, e3, e4⟩ := h.tok j hj
 have hn : g ≠ p := fun e => h.ne e.symm
 exact ⟨hg.cell e1 (by simpa using hn), hg.cell e2 (by simpa using hn), hg.cell e3 (by simpa using hn), hg.cell e4 (by simpa using hn)⟩
theorem PS.cells (h : PS w p g c i nd) : w.cell? ⟨p, 0, none⟩ = some (.slice (sQ g) 9 c) ∧ w.cell? ⟨p, 1, none⟩ = some (nQ i) ∧ w.cell? ⟨p, 2, none⟩ = some (.int .i64 17) ∧ w.cell? ⟨p, 3, none⟩ = some (nQ nd) ∧ w.frozen? ⟨p, 1, none⟩ = false ∧ w.frozen? ⟨p, 3, none⟩ = false :=
 ⟨h.blk.c0, h.blk.c1, h.blk.c2, h.blk.c3, h.blk.free 1, h.blk.free 3⟩
end
theorem Hn (w : WQ) (p g c i nd : Nat) (h : PS w p g c i nd) (hi : i < 9) : cQ 79 #[pQ p] w (Bs (.int .i64 (tk i).k) w) := by
 obtain ⟨c0, c1, c2, c3, _, _⟩ := h.cells
 obtain ⟨t0, _, _, _⟩ := h.tok i hi
 have d0 : (i : Int) < 9 := by omega
 have b0 := h.cap
 have a0 := h.max
 unfold maxLen at a0
 clear h
 generalize (tk i).k = kk at *
 unfold Bs
 go_enter Tryz.func79, Tryz.ntmps79
 go_upto_region 1 with fail
 go_quiet (fail)
 go_upto_region 2 with fail
 go_quiet (fail)
 go_wp2
 go_ret
 exact ⟨rfl, _, World.drewN_drewN _ _ _⟩
theorem Yp (w : WQ) (p g c i nd : Nat) (h : PS w p g c i nd) (hi : i < 9) : cQ 40 #[pQ p] w (Bs (.int .i64 (tk i).a) w) := by
 obtain ⟨c0, c1, c2, c3, _, _⟩ := h.cells
 obtain ⟨_, _, _, t0⟩ := h.tok i hi
 have d0 : (i : Int) < 9 := by omega
 have b0 := h.cap
 have a0 := h.max
 unfold maxLen at a0
 clear h
 generalize (tk i).a = kk at *
 unfold Bs
 go_enter Tryz.func40, Tryz.ntmps40
 go_upto_region 1 with fail
 go_quiet (fail)
 go_upto_region 2 with fail
 go_quiet (fail)
 go_wp2
 go_ret
 exact ⟨rfl, _, World.drewN_drewN _ _ _⟩
def Step (w : WQ) (p g c i nd : Nat) (v : Value) (e : Ending) (w' : WQ) : Prop := e = .returned v ∧ PS w' p g c i nd ∧ w.grownBy w' (some p)
theorem From.turn {w w' : WQ} (h : From w w') (r : Option Nat) : w.grownBy w' r := ⟨h.os, h.tape, h.output, h.size, fun i hi _ => h.block i hi⟩
theorem Pj (w : WQ) (p g c i nd : Nat) (h : PS w p g c i nd) (hi : i < 9) (t : ByteArray) (hk : (tk i).k ≠ 3) : cQ 78 #[pQ p, .string t] w (Step w p g c i nd (.bool false)) := by
 have HK := sK fun n => Hn (w.drewN n) p g c i nd (h.below (Ae (bR) n)) hi
 have HP := sK h
 have e0 : ((tk i).k == 3) = false := by rw [beq_eq_false_iff_ne]; exact hk
 unfold Bs at HK
 clear h hk
 generalize (tk i).k = kk at *
 unfold Step
 go_enter Tryz.func78, Tryz.ntmps78
 go_upto_region 1 with fail
 go_quiet (first | (go_at_call 79; exact Fg (HK _)))
 go_wp2
 go_ret
 exact ⟨rfl, HP.below (Ae (bR) _), From.turn (Ae (bR) _) _⟩
theorem kM (w : WQ) (p g c i nd : Nat) (h : PS w p g c i nd) (hi : i < 9) (t : ByteArray) (hk : (tk i).k = 3) (ht : ((tk i).t.toList == t.toList) = false) : cQ 78 #[pQ p, .string t] w (Step w p g c i nd (.bool false)) := by
 have HK := sK fun n => Hn (w.drewN n) p g c i nd (h.below (Ae (bR) n)) hi
 have HP := sK h
 obtain ⟨c0, c1, c2, c3, _, _⟩ := h.cells
 obtain ⟨_, t1, _, _⟩ := h.tok i hi
 have d0 : (i : Int) < 9 := by omega
 have b0 := h.cap
 have a0 := h.max
 unfold maxLen at a0
 unfold Bs at HK
 rw [hk] at HK
 clear h hk
 generalize (tk i).t = tt at *
 unfold Step
 go_enter Tryz.func78, Tryz.ntmps78
 go_upto_region 1 with fail
 go_quiet (first | (go_at_call 79; exact Fg (HK _)))
 go_wp2
 go_ret
 exact ⟨rfl, HP.below (Ae (bR) _), From.turn (Ae (bR) _) _⟩
theorem La (w : WQ) (p g c i nd : Nat) (h : PS w p g c i nd) (hi : i < 9) (t : ByteArray) (hk : (tk i).k = 3) (ht : ((tk i).t.toList == t.toList) = true) : cQ 78 #[pQ p, .string t] w (Step w p g c (i + 1) nd (.bool true)) := by
 have HK := sK fun n => Hn (w.drewN n) p g c i nd (h.below (Ae (bR) n)) hi
 have HP := sK h
 obtain ⟨c0, c1, c2, c3, f1, _⟩ := h.cells
 obtain ⟨_, t1, _, _⟩ := h.tok i hi
 have d0 : (i : Int) < 9 := by omega
 have b0 := h.cap
 have a0 := h.max
 unfold maxLen at a0
 unfold Bs at HK
 rw [hk] at HK
 clear h hk
 generalize (tk i).t = tt at *
 unfold Step
 go_enter Tryz.func78, Tryz.ntmps78
 go_upto_region 1 with fail
 go_quiet (first | (go_at_call 79; exact Fg (HK _)))
 go_wp2
 go_ret
 refine ⟨rfl, ?_, ?_⟩
 ·exact (HP.below (Ae (bR) _)).setI (i + 1)
 ·exact (From.turn (Ae (bR) _) _).trans (Ad _ p 1 _)
theorem lJ (w : WQ) (p g c i nd : Nat) (h : PS w p g c i nd) (hi : i < 9) (t : ByteArray) (hk : (tk i).k = 3) (ht : ((tk i).t.toList == t.toList) = true) : cQ 81 #[pQ p, .string t] w (Step w p g c (i + 1) nd (.tuple #[])) := by
 have HI := sK (La w p g c i nd h hi t hk ht)
 unfold Step at *
 clear h hk ht
 go_enter Tryz.func81, Tryz.ntmps81
 go_wp2_with (go_at_call 78; refine HI.mono ?_; rintro e w2 ⟨rfl, h0, e0⟩)
 go_end0
 exact ⟨rfl, h0, e0⟩
theorem Xc (w : WQ) (p g c i nd d : Nat) (h : PS w p g c i nd) (hi : i < 9) (hd : d <= 32) (hnd : nd < 1000) (hk : (tk i).k = 2) :
  cQ 38 #[pQ p, nQ d] w (Step w p g c (i + 1) (nd + 1) (.agg #[.int .i64 1, .string { data := #[] }, .int .i64 (tk i).n, eQ, eQ])) := by
 have l2 : p < w.heap.size := h.blk.lt
 have h2 := h.glt
 have n1 := sK fun (wx : WQ) (hx : PS wx p g c i nd) => Pj wx p g c i nd hx hi { data := #[91] } (by rw [hk]; decide)
 have n0 := sK fun (wx : WQ) (hx : PS wx p g c i nd) => Hn wx p g c i nd hx hi
 have b1 := sK fun (wx : WQ) (hx : PS wx p g c i nd) => Yp wx p g c i nd hx hi
 have HP := sK h
 have i2 : (i : Int) < 9 := by omega
 have g2 : ¬ (32 : Int) < (d : Int) := by omega
 have k2 : ((nd : Int) == 1024) = false := by rw [beq_eq_false_iff_ne]; omega
 have f2 := h.cap
 have d2 := h.max
 unfold maxLen at d2
 unfold Bs at n0 b1
 unfold Step at n1
 rw [hk] at n0
 have j2 := sK hk
 clear h hk
 unfold Step
 go_enter Tryz.func38, Tryz.ntmps38
 go_upto_region 1 with fail
 obtain ⟨W, hW, e2, z0, b0⟩ := mk1 w #[zQ, .string { data := #[] }, zQ, eQ, eQ] 40
 rw [hW]
 clear hW
 have g0 := sK (HP.below z0)
 have d1 := sK fun n => b1 (W.drewN n) (g0.below (Ae (bR) n))
 obtain ⟨c0, c1, c2, c3, f1, f3⟩ := g0.cells
 go_quiet (first | (go_at_call 40; exact Fg (d1 _)))
 obtain ⟨W1, x0⟩ := xQ (W.drewN nq)
 have d0 : From W W1 := by rw [x0]; exact Ae (bR) _
 rw [<- x0]
 have o1 := sK (g0.below d0)
 have e1 := sK (b0.below d0)
 have j1 := sK (From.turn (Aa d0 z0) (some p))
 have m2 : W.heap.size <= W1.heap.size := d0.size
 clear x0 d0 c0 c1 c2 c3 f1 f3 d1 g0 b0 z0
 go_upto_region 3 with (go_at_call 78; refine (n1 W1 o1.out).mono ?_; rintro e w2 ⟨rfl, h0, e0⟩)
 have o0 := sK h0
 have k1 := sK (j1.trans e0)
 have g1 : Hid (Blk w2 w.heap.size #[zQ, .string { data := #[] }, zQ, eQ, eQ]) := sK (e1.kept e0 (by simp; omega))
 clear h0 e0 o1 e1 j1
 go_upto_region 4 with (go_at_call 79; refine (n0 w2 o0.out).mono ?_; rintro e w3 ⟨rfl, k3, rfl⟩)
 obtain ⟨W3, y0⟩ := xQ (w2.drewN k3)
 have l0 : From w2 W3 := by rw [y0]; exact Ae (bR) _
 rw [<- y0]
 have w0 := sK (o0.below l0)
 have h1 := sK (g1.below l0)
 have l1 := sK (k1.trans (From.turn l0 (some p)))
 clear y0 o0 g1 k1 l0
 obtain ⟨c0, c1, c2, c3, f1, f3⟩ := w0.cells
 go_upto_region 12 with fail
 obtain ⟨W4, i0⟩ := xQ ((W3.setCell ⟨p, 3, none⟩ (.int .i64 ((nd : Int) + 1))).setCell ⟨p, 1, none⟩ (.int .i64 ((i : Int) + 1)))
 have f0 : Hid (PS W4 p g c (i + 1) (nd + 1)) := sK (by rw [i0]; exact (w0.setN (nd + 1)).setI (i + 1))
 have a1 : W3.grownBy W4 (some p) := by rw [i0]; exact (Ad W3 p 3 _).trans (Ad _ p 1 _)
 have i1 := sK (h1.kept a1 (by simp; omega))
 have m1 := sK (l1.trans a1)
 rw [<- i0]
 clear i0 a1 c0 c1 c2 c3 f1 f3 w0 h1 l1
 obtain ⟨c0, c1, c2, c3, f1, f3⟩ := f0.cells
 obtain ⟨t0, t1, t2, t3⟩ := f0.tok i hi
 go_upto_region 13 with fail
 obtain ⟨W5, w1, a2, j0, s1⟩ := mk1 W4 #[.int .i64 (tk i).k, .string (tk i).t, .int .i64 (tk i).n, .int .i64 (tk i).a] 119
 rw [w1]
 clear w1
 have z1 := sK (f0.below j0)
 have a0 := sK (i1.below j0)
 have y1 := sK (m1.trans (From.turn j0 (some p)))
 obtain ⟨q0, q1, q2, q3⟩ := s1.t4
 obtain ⟨r0, r1, r2, r3, r4⟩ := a0.t5
 have u0 := a0.free 0
 have u1 := a0.free 1
 have u2 := a0.free 2
 have u3 := a0.free 3
 have u4 := a0.free 4
 clear c0 c1 c2 c3 f1 f3 t0 t1 t2 t3 f0 i1 m1 s1 j0 a2
 go_wp2
 have m0 := ((((a0.set 0 (.int .i64 1)).set 1 (.string { data := #[] })).set 2 (.int .i64 (tk i).n)).set 3 (eQ)).set 4 (eQ)
 simp only [qj, qo, qp] at m0
 obtain ⟨Z, hZ⟩ := xQ (((((W5.setCell ⟨w.heap.size, 0, none⟩ (.int .i64 1)).setCell ⟨w.heap.size, 1, none⟩ (.string { data := #[] })).setCell ⟨w.heap.size, 2, none⟩ (.int .i64 (tk i).n)).setCell ⟨w.heap.size, 3, none⟩ (eQ)).setCell ⟨w.heap.size, 4, none⟩ (eQ))
 have x1 : W5.grownBy Z (some w.heap.size) := by
  rw [hZ]; exact (((((Ad _ w.heap.size 0 _).trans (Ad _ w.heap.size 1 _)).trans (Ad _ w.heap.size 2 _)).trans (Ad _ w.heap.size 3 _)).trans (Ad _ w.heap.size 4 _))
 rw [<- hZ] at m0 ⊢
 clear hZ
 obtain ⟨v0, v1, v2, v3, v4⟩ := m0.t5
 refine bodyPost_ret (v := .agg #[.int .i64 1, .string { data := #[] }, .int .i64 (tk i).n, eQ, eQ]) (by simp [results, Tryz.results38, go_sem, v0, v1, v2, v3, v4]) rfl ⟨rfl, ?_, ?_⟩
 ·exact z1.kept x1 (by simp; omega) (by simp; omega)
 ·exact y1.andThen x1 (fun j hj => .inl (by simp at hj; omega))
structure ExS (w wr : WQ) (p g c x i nd : Nat) (t : ByteArray) (A : OQ) (n cap : Nat) (args : VQ) : Prop where
 ps : PS wr p g c i nd
 cur : Blk wr x #[.int .i64 3, .string t, zQ, eQ, .slice A n cap]
 own : wr.ownsRow w.heap.size 40 5 (.slice A n cap) n args
 res : Blk wr w.heap.size #[zQ, .string { data := #[] }, zQ, eQ, eQ]
 turn : w.grownBy wr (some p)
 apart : ∀ b, (Value.slice A n cap).ownBlock = some b -> x < b
theorem ExS.kept {w wr wx : WQ} {p g c x i nd i' nd' n cap : Nat} {t : ByteArray} {A : OQ} {args : VQ} (h : ExS w wr p g c x i nd t A n cap args) (hg : wr.grownBy wx (some p)) (hp : PS wx p g c i' nd') (h1 : p < w.heap.size) (h2 : p ≠ x) : ExS w wx p g c x i' nd' t A n cap args :=
 ⟨hp, h.cur.kept hg (by simpa using h2), h.own.kept hg (by
  rcases Ce h.own with ⟨e, _⟩ | ⟨b, c', e, hb, _⟩
  ·rw [e]; exact .inl rfl
  ·rw [e]; right; simp [Value.ownBlock]; omega), h.res.kept hg (by simp; omega), h.turn.trans hg, h.apart⟩
theorem ExS.push {w w8 w9 e0 : WQ} {p g c x i nd i' nd' n cap g2 d0 : Nat} {t : ByteArray} {A : OQ} {args args' : VQ} (h : ExS w w8 p g c x i nd t A n cap args) (h1 : w8.drew.grownBy w9 (some p)) (hp : PS w9 p g c i' nd') (o : Obj) (h2 : (w9.alloc o).grownBy e0 (Value.slice A n cap).ownBlock)
  (h3 : e0.ownsRow w.heap.size 40 5 (.slice (sQ g2) (n + 1) d0) (n + 1) args') (h4 : (Value.slice A n cap).ownBlock = some g2 ∨ g2 = (w9.alloc o).heap.size) (hpw : p < w.heap.size) (hgw : g < w.heap.size) (t4 : w.heap.size < x) :
  ExS w (e0.setCell ⟨x, 4, none⟩ (.slice (sQ g2) (n + 1) d0)) p g c x i' nd' t (sQ g2) (n + 1) d0 args' := by
 have d6 := h.cur.lt
 have q5 := h1.size
 simp at q5
 have c6 := (Ac w9 o).size
 have l0 : x < g2 := by
  rcases h4 with h4 | h4
  ·exact h.apart _ h4
  ·simp at h4; omega
 have o0 : ∀ b, (Value.slice A n cap).ownBlock = some b -> x < b := h.apart
 have j1 := Ad e0 x 4 (.slice (sQ g2) (n + 1) d0)
 have n5 : PS e0 p g c i' nd' := (hp.below (Ac w9 o)).kept h2 (fun e => by have := o0 _ e; omega) (fun e => by have := o0 _ e; omega)
 have f5 : Blk e0 x #[.int .i64 3, .string t, zQ, eQ, .slice A n cap] := (((h.cur.below (bR).drew).kept h1 (by simp; omega)).below (Ac w9 o)).kept h2 (fun e => by have := o0 _ e; omega)
 have o5 : Blk e0 w.heap.size #[zQ, .string { data := #[] }, zQ, eQ, eQ] := (((h.res.below (bR).drew).kept h1 (by simp; omega)).below (Ac w9 o)).kept h2 (fun e => by have := o0 _ e; omega)
 refine ⟨n5.kept j1 (by simp; omega) (by simp; omega), ?_, h3.kept j1 (.inr (by simp [Value.ownBlock]; omega)), o5.kept j1 (by simp; omega), ?_, fun b e => (show g2 = b by simpa [Value.ownBlock] using e) ▸ l0⟩
 ·have := f5.set 4 (.slice (sQ g2) (n + 1) d0)
  simpa using this
 ·have a1 : w.grownBy w9 (some p) := (h.turn.trans (From.turn (bR).drew (some p))).trans h1
  have a2 := (a1.trans (From.turn (Ac w9 o) (some p))).andThen h2 (fun j hj => .inl (by have := o0 _ hj; omega)); exact a2.andThen j1 (fun j hj => .inl (by injection hj with hj; omega))
theorem mJ : (Tryz.prog.info? 40).map (fun i => (i.zero, i.size, i.bytes)) = some (some (.agg #[zQ, .string { data := #[] }, zQ, eQ, eQ]), 5, 80) := by kernel_rfl
abbrev num2 : VQ := [.int .i64 1, .string { data := #[] }, .int .i64 2, eQ, eQ]
def aY (w : WQ) (p g c nd : Nat) (e : Ending) (w' : WQ) : Prop :=
 ∃ g1 c1, e = .returned (.agg #[.int .i64 3, .string bGf, zQ, eQ, .slice (sQ g1) 1 c1]) ∧ PS w' p g c 6 (nd + 2) ∧ w.grownBy w' (some p) ∧ w.heap.size <= g1 ∧ w'.ownsRow w.heap.size 40 5 (.slice (sQ g1) 1 c1) 1 num2
theorem pU (w : WQ) (p g c nd d : Nat) (h : PS w p g c 2 nd) (hd : d + 1 <= 32) (hnd : nd < 900) :
  cQ 38 #[pQ p, nQ d] w (aY w p g c nd) := by
 have l2 : p < w.heap.size := h.blk.lt
 have i5 := h.glt
 have o1 := sK fun (wx : WQ) (hx : PS wx p g c 2 nd) => Pj wx p g c 2 nd hx (by omega) { data := #[91] } (by decide)
 have s1 := sK fun (wx : WQ) (hx : PS wx p g c 2 nd) => (Hn wx p g c 2 nd hx (by omega) : cQ 79 #[pQ p] wx (Bs (.int .i64 1) wx))
 have k1 := sK fun (wx : WQ) (hx : PS wx p g c 2 nd) => Yp wx p g c 2 nd hx (by omega)
 have n1 := sK fun (wx : WQ) (hx : PS wx p g c 3 (nd + 1)) => La wx p g c 3 (nd + 1) hx (by omega) { data := #[40] } rfl (by rw [ByteArray.toList_eq, ByteArray.toList_eq]; rfl)
 have n3 := sK fun (wx : WQ) (hx : PS wx p g c 4 (nd + 1)) => Pj wx p g c 4 (nd + 1) hx (by omega) { data := #[41] } (by decide)
 have o3 := sK fun (wx : WQ) (hx : PS wx p g c 5 (nd + 2)) => La wx p g c 5 (nd + 2) hx (by omega) { data := #[41] } rfl (by rw [ByteArray.toList_eq, ByteArray.toList_eq]; rfl)
 have d3 : Hid (∀ wx : WQ, PS wx p g c 4 (nd + 1) -> cQ 38 #[pQ p, .int .i64 ((d : Int) + 1)] wx (Step wx p g c 5 (nd + 2) (.agg #[.int .i64 1, .string { data := #[] }, .int .i64 2, eQ, eQ]))) := sK fun wx hx => by
  rw [show (d : Int) + 1 = ((d + 1 : Nat) : Int) by omega]; exact Xc wx p g c 4 (nd + 1) (d + 1) hx (by omega) (by omega) (by omega) rfl
 obtain ⟨i1, hj, u5, v5, w5⟩ := info_parts mJ
 have HP := sK h
 have g5 : ¬ (32 : Int) < (d : Int) := by omega
 have m5 : ((nd : Int) == 1024) = false := by rw [beq_eq_false_iff_ne]; omega
 have e5 := h.cap
 have n4 := h.max
 unfold maxLen at n4
 unfold Bs at s1 k1
 unfold Step at o1 n1 n3 o3 d3
 clear h
 go_enter Tryz.func38, Tryz.ntmps38
 go_upto_region 1 with fail
 obtain ⟨W, hW, d5, e2, b0⟩ := mk1 w #[zQ, .string { data := #[] }, zQ, eQ, eQ] 40
 rw [hW]
 clear hW
 have w0 := sK (HP.below e2)
 have m2 := sK fun n => k1 (W.drewN n) (w0.below (Ae (bR) n))
 obtain ⟨c0, c1, c2, c3, f1, f3⟩ := w0.cells
 go_quiet (first | (go_at_call 40; exact Fg (m2 _)))
 obtain ⟨W1, z1⟩ := xQ (W.drewN nq)
 have j0 : From W W1 := by rw [z1]; exact Ae (bR) _
 rw [<- z1]
 have h0 := sK (w0.below j0)
 have n2 := sK (b0.below j0)
 have e3 := sK (From.turn (Aa j0 e2) (some p))
 have s5 : W.heap.size <= W1.heap.size := j0.size
 clear z1 j0 c0 c1 c2 c3 f1 f3 m2 w0 b0 e2
 go_upto_region 3 with (go_at_call 78; refine (o1 W1 h0.out).mono ?_; rintro e w2 ⟨rfl, d4, l0⟩)
 have w1 := sK d4
 have g3 := sK (e3.trans l0)
 have o2 : Hid (Blk w2 w.heap.size #[zQ, .string { data := #[] }, zQ, eQ, eQ]) := sK (n2.kept l0 (by simp; omega))
 clear d4 l0 h0 n2 e3
 go_upto_region 4 with (go_at_call 79; refine (s1 w2 w1.out).mono ?_; rintro e w3 ⟨rfl, k3, rfl⟩)
 obtain ⟨W3, d2⟩ := xQ (w2.drewN k3)
 have d1 : From w2 W3 := by rw [d2]; exact Ae (bR) _
 rw [<- d2]
 have y1 := sK (w1.below d1)
 have p2 := sK (o2.below d1)
 have i3 := sK (g3.trans (From.turn d1 (some p)))
 clear d2 w1 o2 g3 d1
 obtain ⟨c0, c1, c2, c3, f1, f3⟩ := y1.cells
 go_upto_region 12 with fail
 obtain ⟨W4, y0⟩ := xQ ((W3.setCell ⟨p, 3, none⟩ (.int .i64 ((nd : Int) + 1))).setCell ⟨p, 1, none⟩ (.int .i64 3))
 have q0 : Hid (PS W4 p g c (2 + 1) (nd + 1)) := sK (by rw [y0]; exact (y1.setN (nd + 1)).setI (2 + 1))
 have i2 : W3.grownBy W4 (some p) := by rw [y0]; exact (Ad W3 p 3 _).trans (Ad _ p 1 _)
 have s2 := sK (p2.kept i2 (by simp; omega))
 have m1 := sK (i3.trans i2)
 rw [<- y0]
 clear y0 i2 c0 c1 c2 c3 f1 f3 y1 p2 i3
 obtain ⟨c0, c1, c2, c3, f1, f3⟩ := q0.cells
 obtain ⟨t0, t1, t2, t3⟩ := q0.tok 2 (by omega)
 go_upto_region 13 with fail
 obtain ⟨W5, i4, b5, z0, a4⟩ := mk1 W4 #[.int .i64 (tk 2).k, .string (tk 2).t, .int .i64 (tk 2).n, .int .i64 (tk 2).a] 119
 rw [i4]
 clear i4
 have p3 := sK (q0.below z0)
 have y2 := sK (s2.below z0)
 have j3 := sK (m1.trans (From.turn z0 (some p)))
 have y3 := sK a4
 have r5 : w.heap.size <= W4.heap.size := m1.size
 clear c0 c1 c2 c3 f1 f3 t0 t1 t2 t3 q0 s2 m1 a4 z0 o1 s1 k1
 go_upto_region 17 with (go_at_call 78; refine (n1 W5 p3.out).mono ?_; rintro e w6 ⟨rfl, e4, m0⟩)
 have q3 := sK e4
 have l3 := sK (j3.trans m0)
 have z2 := sK (y2.kept m0 (by simp; omega))
 have g4 := y3.kept m0 (by simp; omega)
 have p5 := m0.size
 clear e4 m0 p3 j3 y2 y3
 obtain ⟨-, q1⟩ := g4.t2
 go_upto_region 18 with fail
 obtain ⟨W6, j4, c5, b1, b4⟩ := mk1 w6 #[.int .i64 3, .string (tk 2).t, zQ, eQ, eQ] 40
 rw [j4]
 clear j4
 have f0 := sK (q3.below b1)
 have a3 := sK (z2.below b1)
 have m3 := sK (l3.trans (From.turn b1 (some p)))
 have z3 := sK b4
 have b6 : p < w6.heap.size := by omega
 have t4 : w.heap.size < w6.heap.size := by omega
 have e6 : w6.heap.size < W6.heap.size := by omega
 have s3 : Hid (ExS w W6 p g c w6.heap.size 4 (nd + 1) (tk 2).t none 0 0 []) := sK ⟨f0.out, z3.out, Rq _ _ _ _, a3.out, m3.out, fun b e => by simp [Value.ownBlock] at e⟩
 have a6 : IntKind.i64.wrap ((d : Int) + 1) = (d : Int) + 1 := by rw [show (d : Int) + 1 = ((d + 1 : Nat) : Int) by omega]; exact Ay (by omega)
 clear q1 g4 q3 z2 l3 b4 b1 f0 z3 a3 m3 c5 b5 d5 s5 r5 p5 g5 m5 e5 n4 n1 HP
 generalize w6.heap.size = x at *
 go_loopw [] (fun wr => ExS w wr p g c x 4 (nd + 1) (tk 2).t none 0 0 [] ∨ ∃ g2 d0, ExS w wr p g c x 5 (nd + 2) (tk 2).t (sQ g2) 1 d0 [.int .i64 1, .string { data := #[] }, .int .i64 2, eQ, eQ]) (fun wr => 9 - (intOf ((wr.cell? ⟨p, 1, none⟩).getD undef)).toNat)
 case atStart => exact .inl s3.out
 case round =>
  clear s3; obtain ⟨w7, rfl⟩ := xQ wr
  rcases hrel with hS | ⟨g2, d0, hS⟩
  ·have l4 := hS.ps.cells.2.1
   have f0 := sK hS.ps; have HS := sK hS; clear hS; go_upto_region 19 with (go_at_call 78; refine (n3 w7 f0.out).mono ?_; rintro e w8 ⟨rfl, i0, n0⟩)
   have a0 := sK (HS.kept n0 i0 l2 (by omega)); have y4 := sK l4; clear i0 n0 f0 HS l4; have f6 : x < w8.heap.size := a0.cur.lt; have z5 : w.heap.size <= w8.heap.size := a0.turn.size; obtain ⟨-, -, -, -, q4⟩ := a0.cur.t5; go_upto_region 21 with fail
   have z4 := sK a0.ps; have a5 := sK fun (wa wb : WQ) (h1 : w8.drew.grownBy wa (some p)) (o : Obj) (h2 : (wa.alloc o).grownBy wb none) => (((a0.cur.below (bR).drew).kept h1 (by simp; omega)).below (Ac wa o)).kept h2 (by simp)
   have x5 : w8.drew.cell? ⟨x, 4, none⟩ = some (eQ) := q4; go_region_law (first
       | (go_simp; go_at_call 38; refine (d3 _ (z4.below (bR).drew)).mono ?_; rintro e w9 ⟨rfl, f4, g0⟩; have m4 : w9.cell? ⟨x, 4, none⟩ = some (eQ) := g0.cell (by simpa using q4) (by simp; omega); have j5 : ∀ o, (w9.alloc o).cell? ⟨x, 4, none⟩ = some (eQ) := fun o => ((Ac w9 o).cell (p := ⟨x, 4, none⟩) (by have := g0.size; simp at this; show x < _; omega)).trans m4)
       | (refine step_append_lies _ rfl (.tmp 91) (.tmp 96) 38 rfl w.heap.size 40 i1 _ 5 80 Tryz.underlying38 hj u5 v5 w5 rfl (by omega) _ 0 [] rfl (Rq _ _ _ _) _ 1 1 [.int .i64 1, .string { data := #[] }, .int .i64 2, eQ, eQ] rfl rfl (Dv w9 #[.int .i64 1, .string { data := #[] }, .int .i64 2, eQ, eQ] 40) (by simp [Value.oneCell']) (by omega) (by unfold maxLen; omega) (by omega) (by have := g0.size; simp at this; simp; omega) _ rfl ?_; intro g2 d0 e0 p4 k4 o4 l5; have j2 : (w9.alloc (.cells #[.int .i64 1, .string { data := #[] }, .int .i64 2, eQ, eQ] 40)).grownBy e0 none := k4; have f2 := a5 w9 e0 g0 _ j2; have k5 := f2.c4; have h5 := f2.free 4))
   all_goals
    have s4 := (a0.push g0 f4 _ j2 p4 o4 l2 i5 t4)
    have h0 := sK s4; clear f2 f4 g0 j2 p4 k4 o4 l5 m4 j5 k5 h5 q4 s4 x5; go_wp2; go_roundw
    case rel => exact .inr ⟨g2, d0, h0.out⟩
    case measure =>
     have e1 := h0.ps.cells.2.1; rw [y4.out, e1]; simp [intOf]
  ·have f0 := sK hS.ps
   have HS := sK hS; clear hS; go_upto_region 22 with (go_at_call 78; refine (o3 w7 f0.out).mono ?_; rintro e w8 ⟨rfl, i0, n0⟩)
   have a0 := sK (HS.kept n0 i0 l2 (by omega)); clear i0 n0 f0 HS; obtain ⟨x0, x1, x2, x3, x4⟩ := a0.cur.t5; obtain ⟨r0, r1, r2, r3, r4⟩ := a0.res.t5; have u0 := a0.res.free 0; have u1 := a0.res.free 1; have u2 := a0.res.free 2; have u3 := a0.res.free 3; have u4 := a0.res.free 4; have w4 := sK (a0.apart g2 rfl); go_wp2; have l1 := ((((a0.res.set 0 (.int .i64 3)).set 1 (.string (tk 2).t)).set 2 (zQ)).set 3 (eQ)).set 4 (.slice (sQ g2) 1 d0); simp only [qj, qo, qp] at l1; obtain ⟨Z, hZ⟩ := xQ (((((w8.setCell ⟨w.heap.size, 0, none⟩ (.int .i64 3)).setCell ⟨w.heap.size, 1, none⟩ (.string (tk 2).t)).setCell ⟨w.heap.size, 2, none⟩ (zQ)).setCell ⟨w.heap.size, 3, none⟩ (eQ)).setCell ⟨w.heap.size, 4, none⟩ (.slice (sQ g2) 1 d0)); have k2 : w8.grownBy Z (some w.heap.size) := by
    rw [hZ]; exact (((((Ad _ w.heap.size 0 _).trans (Ad _ w.heap.size 1 _)).trans (Ad _ w.heap.size 2 _)).trans (Ad _ w.heap.size 3 _)).trans (Ad _ w.heap.size 4 _))
   rw [<- hZ] at l1 ⊢; clear hZ; obtain ⟨v0, v1, v2, v3, v4⟩ := l1.t5; have y5 := w4.out; refine bodyPost_ret (v := .agg #[.int .i64 3, .string (tk 2).t, zQ, eQ, .slice (sQ g2) 1 d0]) (by simp [results, Tryz.results38, go_sem, v0, v1, v2, v3, v4]) rfl ⟨g2, d0, rfl, ?_, ?_, by omega, ?_⟩
   ·exact a0.ps.kept k2 (by simp; omega) (by simp; omega)
   ·exact a0.turn.andThen k2 (fun j hj => .inl (by simp at hj; omega))
   ·exact a0.own.kept k2 (.inr (by simp [Value.ownBlock]; omega))
abbrev num3 : VQ := [.int .i64 1, .string { data := #[] }, .int .i64 3, eQ, eQ]
abbrev gfV (g1 c1 : Nat) : VQ := [.int .i64 3, .string bGf, zQ, eQ, .slice (sQ g1) 1 c1]
def dG (w : WQ) (p g c : Nat) (e : Ending) (w' : WQ) : Prop :=
 ∃ g0 c0 g1 c1, e = .returned (.agg #[.int .i64 3, .string bHam, zQ, eQ, .slice (sQ g0) 2 c0]) ∧ PS w' p g c 9 4 ∧ w.grownBy w' (some p) ∧ w'.ownsRow w.heap.size 40 5 (.slice (sQ g0) 2 c0) 2 (gfV g1 c1 ++ num3) ∧ w'.ownsRow w.heap.size 40 5 (.slice (sQ g1) 1 c1) 1 num2
structure GfS (w wr : WQ) (x g1 c1 : Nat) (A : OQ) : Prop where
 own : wr.ownsRow w.heap.size 40 5 (.slice (sQ g1) 1 c1) 1 num2
 hx : x < g1
 lt : g1 < wr.heap.size
 ne : A ≠ sQ g1
theorem GfS.grown {w wr wx : WQ} {x g1 c1 : Nat} {A : OQ} (h : GfS w wr x g1 c1 A) {r : Option Nat} (hg : wr.grownBy wx r) (hr : r ≠ some g1) : GfS w wx x g1 c1 A :=
 ⟨h.own.kept hg (.inr (by simp [Value.ownBlock]; exact fun e => hr e.symm)), h.hx, qk h.lt hg.size, h.ne⟩
theorem iH (w : WQ) (p g c : Nat) (h : PS w p g c 0 0) : cQ 38 #[pQ p, .int .i64 1] w (dG w p g c) := by
 have a1 : p < w.heap.size := h.blk.lt
 have p5 := h.glt
 have y2 := sK fun (wx : WQ) (hx : PS wx p g c 0 0) => Pj wx p g c 0 0 hx (by omega) { data := #[91] } (by decide)
 have z2 := sK fun (wx : WQ) (hx : PS wx p g c 0 0) => (Hn wx p g c 0 0 hx (by omega) : cQ 79 #[pQ p] wx (Bs (.int .i64 1) wx))
 have m2 := sK fun (wx : WQ) (hx : PS wx p g c 0 0) => Yp wx p g c 0 0 hx (by omega)
 have s2 := sK fun (wx : WQ) (hx : PS wx p g c 1 1) => La wx p g c 1 1 hx (by omega) { data := #[40] } rfl (by rw [ByteArray.toList_eq, ByteArray.toList_eq]; rfl)
 have w4 := sK fun (wx : WQ) (hx : PS wx p g c 2 1) => Pj wx p g c 2 1 hx (by omega) { data := #[41] } (by decide)
 have y4 := sK fun (wx : WQ) (hx : PS wx p g c 6 3) => kM wx p g c 6 3 hx (by omega) { data := #[41] } rfl (by rw [ByteArray.toList_eq, ByteArray.toList_eq]; rfl)
 have a5 := sK fun (wx : WQ) (hx : PS wx p g c 6 3) => lJ wx p g c 6 3 hx (by omega) { data := #[44] } rfl (by rw [ByteArray.toList_eq, ByteArray.toList_eq]; rfl)
 have z4 := sK fun (wx : WQ) (hx : PS wx p g c 8 4) => La wx p g c 8 4 hx (by omega) { data := #[41] } rfl (by rw [ByteArray.toList_eq, ByteArray.toList_eq]; rfl)
 have l4 : Hid (∀ wx : WQ, PS wx p g c 2 1 -> cQ 38 #[pQ p, .int .i64 2] wx (aY wx p g c 1)) := sK fun wx hx => pU wx p g c 1 2 hx (by omega) (by omega)
 have k4 : Hid (∀ wx : WQ, PS wx p g c 7 3 -> cQ 38 #[pQ p, .int .i64 2] wx (Step wx p g c 8 4 (.agg #[.int .i64 1, .string { data := #[] }, .int .i64 3, eQ, eQ]))) := sK fun wx hx => Xc wx p g c 7 3 2 hx (by omega) (by omega) (by omega) rfl
 obtain ⟨i1, hj, s5, u5, v5⟩ := info_parts mJ
 have HP := sK h
 have e6 := h.cap
 have q5 := h.max
 unfold maxLen at q5
 unfold Bs at z2 m2
 unfold Step at y2 s2 w4 y4 a5 z4 k4
 unfold aY at l4
 clear h
 go_enter Tryz.func38, Tryz.ntmps38
 go_upto_region 1 with fail
 obtain ⟨W, hW, c6, l3, b0⟩ := mk1 w #[zQ, .string { data := #[] }, zQ, eQ, eQ] 40
 rw [hW]
 clear hW
 have a2 := sK (HP.below l3)
 have a4 := sK fun n => m2 (W.drewN n) (a2.below (Ae (bR) n))
 obtain ⟨c0, c1, c2, c3, f1, f3⟩ := a2.cells
 go_quiet (first | (go_at_call 40; exact Fg (a4 _)))
 obtain ⟨W1, i3⟩ := xQ (W.drewN nq)
 have d1 : From W W1 := by rw [i3]; exact Ae (bR) _
 rw [<- i3]
 have o0 := sK (a2.below d1)
 have b4 := sK (b0.below d1)
 have m4 := sK (From.turn (Aa d1 l3) (some p))
 have i6 : W.heap.size <= W1.heap.size := d1.size
 clear i3 d1 c0 c1 c2 c3 f1 f3 a4 a2 b0 l3
 go_upto_region 3 with (go_at_call 78; refine (y2 W1 o0.out).mono ?_; rintro e w2 ⟨rfl, i5, j2⟩)
 have a3 := sK i5
 have n4 := sK (m4.trans j2)
 have d4 : Hid (Blk w2 w.heap.size #[zQ, .string { data := #[] }, zQ, eQ, eQ]) := sK (b4.kept j2 (by simp; omega))
 clear i5 j2 o0 b4 m4
 go_upto_region 4 with (go_at_call 79; refine (z2 w2 a3.out).mono ?_; rintro e w3 ⟨rfl, k3, rfl⟩)
 obtain ⟨W3, j3⟩ := xQ (w2.drewN k3)
 have i2 : From w2 W3 := by rw [j3]; exact Ae (bR) _
 rw [<- j3]
 have d3 := sK (a3.below i2)
 have e4 := sK (d4.below i2)
 have o4 := sK (n4.trans (From.turn i2 (some p)))
 clear j3 a3 d4 n4 i2
 obtain ⟨c0, c1, c2, c3, f1, f3⟩ := d3.cells
 go_upto_region 12 with fail
 obtain ⟨W4, d2⟩ := xQ ((W3.setCell ⟨p, 3, none⟩ (.int .i64 1)).setCell ⟨p, 1, none⟩ (.int .i64 1))
 have y1 : Hid (PS W4 p g c (0 + 1) (0 + 1)) := sK (by rw [d2]; exact (d3.setN (0 + 1)).setI (0 + 1))
 have n3 : W3.grownBy W4 (some p) := by rw [d2]; exact (Ad W3 p 3 _).trans (Ad _ p 1 _)
 have f4 := sK (e4.kept n3 (by simp; omega))
 have o2 := sK (o4.trans n3)
 rw [<- d2]
 clear d2 n3 c0 c1 c2 c3 f1 f3 d3 e4 o4
 obtain ⟨c0, c1, c2, c3, f1, f3⟩ := y1.cells
 obtain ⟨t0, t1, t2, t3⟩ := y1.tok 0 (by omega)
 go_upto_region 13 with fail
 obtain ⟨W5, l5, a6, e2, g5⟩ := mk1 W4 #[.int .i64 (tk 0).k, .string (tk 0).t, .int .i64 (tk 0).n, .int .i64 (tk 0).a] 119
 rw [l5]
 clear l5
 have b5 := sK (y1.below e2)
 have g4 := sK (f4.below e2)
 have p4 := sK (o2.trans (From.turn e2 (some p)))
 have e5 := sK g5
 have h6 : w.heap.size <= W4.heap.size := o2.size
 clear c0 c1 c2 c3 f1 f3 t0 t1 t2 t3 y1 f4 o2 g5 e2 y2 z2 m2
 go_upto_region 17 with (go_at_call 78; refine (s2 W5 b5.out).mono ?_; rintro e w6 ⟨rfl, j5, j1⟩)
 have c5 := sK j5
 have s4 := sK (p4.trans j1)
 have i4 := sK (g4.kept j1 (by simp; omega))
 have k5 := e5.kept j1 (by simp; omega)
 have g6 := j1.size
 clear j5 j1 b5 p4 g4 e5
 obtain ⟨-, q1⟩ := k5.t2
 go_upto_region 18 with fail
 obtain ⟨W6, m5, b6, f2, h5⟩ := mk1 w6 #[.int .i64 3, .string (tk 0).t, zQ, eQ, eQ] 40
 rw [m5]
 clear m5
 have j0 := sK (c5.below f2)
 have j4 := sK (i4.below f2)
 have t4 := sK (s4.trans (From.turn f2 (some p)))
 have f5 := sK h5
 have o6 : p < w6.heap.size := by omega
 have r5 : w.heap.size < w6.heap.size := by omega
 have p6 : w6.heap.size < W6.heap.size := by omega
 have d5 : Hid (ExS w W6 p g c w6.heap.size 2 1 (tk 0).t none 0 0 []) := sK ⟨j0.out, f5.out, Rq _ _ _ _, j4.out, t4.out, fun b e => by simp [Value.ownBlock] at e⟩
 clear q1 k5 c5 i4 s4 h5 f2 j0 f5 j4 t4 b6 a6 c6 i6 h6 g6 e6 q5 s2 HP
 generalize w6.heap.size = x at *
 go_loopw [] (fun wr => ExS w wr p g c x 2 1 (tk 0).t none 0 0 [] ∨ (∃ g2 e0 g1 c1, ExS w wr p g c x 6 3 (tk 0).t (sQ g2) 1 e0 (gfV g1 c1) ∧ GfS w wr x g1 c1 (sQ g2)) ∨ ∃ g2 e0 g1 c1, ExS w wr p g c x 8 4 (tk 0).t (sQ g2) 2 e0 (gfV g1 c1 ++ num3) ∧ GfS w wr x g1 c1 (sQ g2)) (fun wr => 9 - (intOf ((wr.cell? ⟨p, 1, none⟩).getD undef)).toNat)
 case atStart => exact .inl d5.out
 case round =>
  clear d5; obtain ⟨w7, rfl⟩ := xQ wr
  rcases hrel with hS | ⟨g2, e0, g1, c1, hS, hGS⟩ | ⟨g2, e0, g1, c1, hS, hGS⟩
  ·have m1 := hS.ps.cells.2.1
   have j0 := sK hS.ps; have HS := sK hS; clear hS; go_upto_region 19 with (go_at_call 78; refine (w4 w7 j0.out).mono ?_; rintro e w8 ⟨rfl, l0, f0⟩)
   have a0 := sK (HS.kept f0 l0 a1 (by omega)); have p2 := sK m1; clear l0 f0 j0 HS m1; have j6 : x < w8.heap.size := a0.cur.lt; have d6 : w.heap.size <= w8.heap.size := a0.turn.size; obtain ⟨-, -, -, -, q4⟩ := a0.cur.t5; go_upto_region 21 with fail
   have z1 := sK a0.ps; have e3 := sK fun (wa wb : WQ) (h1 : w8.drew.grownBy wa (some p)) (o : Obj) (h2 : (wa.alloc o).grownBy wb none) => (((a0.cur.below (bR).drew).kept h1 (by simp; omega)).below (Ac wa o)).kept h2 (by simp)
   go_region_law (first
       | (go_simp; go_at_call 38; refine (l4 _ (z1.below (bR).drew)).mono ?_; rintro e w9 ⟨ga, ca, rfl, b1, d0, n5, y3⟩; have n1 : w9.cell? ⟨x, 4, none⟩ = some (eQ) := d0.cell (by simpa using q4) (by simp; omega); have o3 : ∀ o, (w9.alloc o).cell? ⟨x, 4, none⟩ = some (eQ) := fun o => ((Ac w9 o).cell (p := ⟨x, 4, none⟩) (by have := d0.size; simp at this; show x < _; omega)).trans n1)
       | (refine step_append_lies _ rfl (.tmp 91) (.tmp 96) 38 rfl w.heap.size 40 i1 _ 5 80 Tryz.underlying38 hj s5 u5 v5 rfl (by omega) _ 0 [] rfl (Rq _ _ _ _) _ 1 1 (gfV ga ca) rfl rfl (Dv w9 (gfV ga ca).toArray 40) (by simp [Value.oneCell']) (by omega) (by unfold maxLen; omega) (by omega) (by have := d0.size; simp at this; simp; omega) _ rfl ?_; intro g2 e0 n0 o1 k1 y0 q3; have m0 : (w9.alloc (.cells (gfV ga ca).toArray 40)).grownBy n0 none := k1; have w0 := e3 w9 n0 d0 _ m0; have p3 := w0.c4; have m3 := w0.free 4))
   all_goals
    have s1 := (a0.push d0 b1 _ m0 o1 y0 a1 p5 r5)
    have l1 : GfS w (n0.setCell ⟨x, 4, none⟩ (.slice (sQ g2) 1 e0)) x ga ca (sQ g2) := by
     have o5 := (y3.lt ga rfl).2; have z3 := d0.size; simp at z3 n5; have j2 : g2 = w9.heap.size + 1 := by
      have s3 : (Value.slice none 0 0).ownBlock = some g2 ∨ g2 = (w9.alloc (.cells (gfV ga ca).toArray 40)).heap.size := y0
      rcases s3 with h4 | h4
      ·simp [Value.ownBlock] at h4
      ·simpa using h4
     have h0 : GfS w w9 x ga ca (sQ g2) := ⟨Dd y3 (by simp; omega), by omega, o5, by simp <;> omega⟩
     exact ((h0.grown (From.turn (Ac w9 _) none) (by simp)).grown m0 (by simp)).grown (Ad n0 x 4 _) (by simp; omega)
    have o0 := sK s1; have i0 := sK l1; clear w0 b1 d0 m0 o1 k1 y0 q3 n1 o3 p3 m3 q4 s1 l1 y3 n5; go_wp2; go_roundw
    case rel => exact .inr (.inl ⟨g2, e0, ga, ca, o0.out, i0.out⟩)
    case measure =>
     have e1 := o0.ps.cells.2.1; rw [p2.out, e1]; simp [intOf]
  ·have m1 := hS.ps.cells.2.1
   have j0 := sK hS.ps; have HS := sK hS; have i0 := sK hGS; clear hS hGS; go_upto_region 19 with (go_at_call 78; refine (y4 w7 j0.out).mono ?_; rintro e w8 ⟨rfl, l0, f0⟩)
   have a0 := sK (HS.kept f0 l0 a1 (by omega)); have z0 := sK (i0.grown f0 (by have := i0.hx; simp; omega)); have p2 := sK m1; clear l0 f0 j0 HS m1 i0; obtain ⟨-, -, -, -, q4⟩ := a0.cur.t5; have z1 := sK a0.ps; go_upto_region 21 with (go_at_call 81; refine (a5 w8 z1.out).mono ?_; rintro e l2 ⟨rfl, l0, f0⟩)
   have q0 := sK (a0.kept f0 l0 a1 (by omega)); have w1 := sK (z0.grown f0 (by have := z0.hx; simp; omega)); clear l0 f0 z1 a0 q4 z0; have j6 : x < l2.heap.size := q0.cur.lt; have d6 : w.heap.size <= l2.heap.size := q0.turn.size; obtain ⟨-, -, -, -, q4⟩ := q0.cur.t5; have z5 := sK q0.ps; have l6 : x < g2 := q0.apart g2 rfl; have x5 := sK q0.own; have e3 := sK fun (wa wb : WQ) (h1 : l2.drew.grownBy wa (some p)) (o : Obj) (h2 : (wa.alloc o).grownBy wb (some g2)) => (((q0.cur.below (bR).drew).kept h1 (by simp; omega)).below (Ac wa o)).kept h2 (by simp; omega)
   have y5 := sK fun (wa : WQ) (h1 : l2.drew.grownBy wa (some p)) (o : Obj) => Ag ((Ag x5 ((bR).drew) (qb _)).kept h1 (.inr (by simp [Value.ownBlock]; omega))) (Ac wa o) (qb _)
   go_region_law (first
       | (go_simp; go_at_call 38; refine (k4 _ (z5.below (bR).drew)).mono ?_; rintro e w9 ⟨rfl, b1, d0⟩; have n1 : w9.cell? ⟨x, 4, none⟩ = some (.slice (sQ g2) 1 e0) := d0.cell (by simpa using q4) (by simp; omega); have o3 : ∀ o, (w9.alloc o).cell? ⟨x, 4, none⟩ = some (.slice (sQ g2) 1 e0) := fun o => ((Ac w9 o).cell (p := ⟨x, 4, none⟩) (by have := d0.size; simp at this; show x < _; omega)).trans n1)
       | (refine step_append_lies _ rfl (.tmp 91) (.tmp 96) 38 rfl w.heap.size 40 i1 _ 5 80 Tryz.underlying38 hj s5 u5 v5 rfl (by omega) _ 1 (gfV g1 c1) rfl (y5 w9 d0 _) _ 1 1 num3 rfl rfl (Dv w9 num3.toArray 40) (by simp [Value.oneCell']) (by omega) (by unfold maxLen; omega) (by omega) (by have := d0.size; simp at this; simp; omega) _ rfl ?_; intro g3 h3 n0 o1 k1 y0 q3; have m0 : (w9.alloc (.cells num3.toArray 40)).grownBy n0 (some g2) := k1; have w0 := e3 w9 n0 d0 _ m0; have p3 := w0.c4; have m3 := w0.free 4))
   all_goals
    have s1 := (q0.push d0 b1 _ m0 o1 y0 a1 p5 r5)
    have l1 : GfS w (n0.setCell ⟨x, 4, none⟩ (.slice (sQ g3) 2 h3)) x g1 c1 (sQ g3) := by
     have f6 := w1.ne; have n6 := w1.hx; simp at f6; have z3 := d0.size; have o5 := w1.lt; simp at z3; have m6 : g3 ≠ g1 := by
      have s3 : (Value.slice (sQ g2) 1 e0).ownBlock = some g3 ∨ g3 = (w9.alloc (.cells num3.toArray 40)).heap.size := y0
      rcases s3 with h4 | h4
      ·have : g2 = g3 := by simpa [Value.ownBlock] using h4
       omega
      ·simp at h4; omega
     have h1 := (((w1.grown (From.turn (bR).drew none) (by simp)).grown d0 (by simp; omega)).grown (From.turn (Ac w9 _) none) (by simp)).grown m0 (by simp; omega); have h2 := h1.grown (Ad n0 x 4 (.slice (sQ g3) 2 h3)) (by simp; omega); exact ⟨h2.own, h2.hx, h2.lt, by simp <;> omega⟩
    have o0 := sK s1; have i0 := sK l1; clear w0 b1 d0 m0 o1 k1 y0 q3 n1 o3 p3 m3 q4 s1 l1; go_wp2; go_roundw
    case rel => exact .inr (.inr ⟨g3, h3, g1, c1, o0.out, i0.out⟩)
    case measure =>
     have e1 := o0.ps.cells.2.1; rw [p2.out, e1]; simp [intOf]
  ·have j0 := sK hS.ps
   have HS := sK hS; have i0 := sK hGS; clear hS hGS; go_upto_region 22 with (go_at_call 78; refine (z4 w7 j0.out).mono ?_; rintro e w8 ⟨rfl, l0, f0⟩)
   have a0 := sK (HS.kept f0 l0 a1 (by omega)); have z0 := sK (i0.grown f0 (by have := i0.hx; simp; omega)); clear l0 f0 j0 HS i0; obtain ⟨x0, x1, x2, x3, x4⟩ := a0.cur.t5; obtain ⟨r0, r1, r2, r3, r4⟩ := a0.res.t5; have u0 := a0.res.free 0; have u1 := a0.res.free 1; have u2 := a0.res.free 2; have u3 := a0.res.free 3; have u4 := a0.res.free 4; have w5 := sK (a0.apart g2 rfl); go_wp2; have n2 := ((((a0.res.set 0 (.int .i64 3)).set 1 (.string (tk 0).t)).set 2 (zQ)).set 3 (eQ)).set 4 (.slice (sQ g2) 2 e0); simp only [qj, qo, qp] at n2; obtain ⟨Z, hZ⟩ := xQ (((((w8.setCell ⟨w.heap.size, 0, none⟩ (.int .i64 3)).setCell ⟨w.heap.size, 1, none⟩ (.string (tk 0).t)).setCell ⟨w.heap.size, 2, none⟩ (zQ)).setCell ⟨w.heap.size, 3, none⟩ (eQ)).setCell ⟨w.heap.size, 4, none⟩ (.slice (sQ g2) 2 e0)); have k2 : w8.grownBy Z (some w.heap.size) := by
    rw [hZ]; exact (((((Ad _ w.heap.size 0 _).trans (Ad _ w.heap.size 1 _)).trans (Ad _ w.heap.size 2 _)).trans (Ad _ w.heap.size 3 _)).trans (Ad _ w.heap.size 4 _))
   rw [<- hZ] at n2 ⊢; clear hZ; obtain ⟨v0, v1, v2, v3, v4⟩ := n2.t5; have k6 := w5.out; refine bodyPost_ret (v := .agg #[.int .i64 3, .string (tk 0).t, zQ, eQ, .slice (sQ g2) 2 e0]) (by simp [results, Tryz.results38, go_sem, v0, v1, v2, v3, v4]) rfl ⟨g2, e0, g1, c1, rfl, ?_, ?_, ?_, ?_⟩
   ·exact a0.ps.kept k2 (by simp; omega) (by simp; omega)
   ·exact a0.turn.andThen k2 (fun j hj => .inl (by simp at hj; omega))
   ·exact a0.own.kept k2 (.inr (by simp [Value.ownBlock]; omega))
   ·exact (z0.grown k2 (by have := z0.hx; simp; omega)).own
end Go.Proofs.YtoalkldfhkabnaaGreatDoor
