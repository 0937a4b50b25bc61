/- Part of WholeTraces. -/
import Derived.Deep.RegionLaw
import Derived.Sort.OwnSortedInts
import Derived.Test.YtoalkldfhkabnaaGreatDoorW00
import Derived.Test.YtoalkldfhkabnaaGreatDoorW01
import Derived.Test.YtoalkldfhkabnaaGreatDoorW10
import Derived.Test.YtoalkldfhkabnaaGreatDoorW31
import Derived.Test.YtoalkldfhkabnaaGreatDoorW36
import Derived.Test.YtoalkldfhkabnaaGreatDoorW37
set_option linter.all false
set_option maxRecDepth 10000
set_option maxHeartbeats 16000000
namespace Go.Proofs.YtoalkldfhkabnaaGreatDoor
open Go.RowKit Fq
theorem kB : madeCells (Value.slice none 0 0).cells 3 = #[eQ, eQ, eQ] := by kernel_rfl
theorem lP (w : WQ) : (Instr.makeSlice 25 (.int .i64 3) (.int .i64 3)).run Tryz.prog w = .ok (.slice (sQ w.heap.size) 3 3) (w.alloc (.cells #[eQ, eQ, eQ] 22)) := by
 obtain ⟨i, h1, h2, h3, h4⟩ := info_parts Eg
 have := run_make (P := Tryz.prog) w 25 22 i _ Tryz.underlying25 h1 h2 .i64 .i64 3 3 (by omega) (by omega) (by rw [h4]; decide) (by decide)
 rw [h3, show (3 : Int).toNat * 1 = 3 from rfl, kB] at this
 exact this
def colP (i j : Nat) : NQ := (pts.take j).map (·.getD i 0)
def simR : LQ := [colP 0 7, colP 1 7, colP 2 7]
theorem Gj : ∀ i, i < 3 -> ∀ j, j < 7 -> colP i (j + 1) = colP i j ++ [(pts.getD j []).getD i 0] := by decide
theorem Tf : ∀ j, j < 7 -> (pts.getD j []).length = 3 := by decide
theorem Mi : ∀ j, j < 7 -> ∀ i, i < 3 -> (pts.getD j []).getD i 0 < 2 := by decide
theorem Lj : Mat F2.fld 7 simR := by
 have h : ∀ r ∈ simR, r.length = 7 ∧ ∀ x ∈ r, x < 2 := by decide
 exact h
theorem Mc {w0 w w' : WQ} {r : Option Nat} {v : Value} (h : w0.grownBy w r) (h2 : w.grownBy w' v.ownBlock) (h3 : ∀ k, v.ownBlock = some k -> w0.heap.size <= k) : w0.grownBy w' r :=
 ⟨h2.os.trans h.os, h2.tape.trans h.tape, h2.output.trans h.output, qs h.size h2.size, fun k hk hr => (h2.block k (qk hk h.size) (fun e => by have := h3 k e.symm; omega)).trans (h.block k hk hr)⟩
theorem Vi (w : WQ) : cQ 200 #[f2V, .int .i64 3] w (Fz 7 (Bc F2.fld simR 7).1 w) := by
 have j6 := lP
 obtain ⟨i0, hi, n4, o4, p4⟩ := info_parts Bj
 have a6 := sK aM
 have z5 : Hid (∀ wx B, RdM wx B 3 3 simR -> cQ 58 #[f2V, .agg #[.int .i64 7, .slice B 3 3]] wx (Fz 7 (Bc F2.fld simR 7).1 wx)) := sK fun wx B h => (Tw wx F2 Ew none 0 (RdN.nil wx 0 (by unfold maxLen; omega)) 7 3 3 B simR h Lj (by omega) (by omega) (by omega)).mono fun e w' ⟨A, c, B, h1, h2, h3, h4, _⟩ => ⟨B, A, c, h1, h2.max, h3, h4⟩
 unfold Fz at *
 unfold f2V at *
 go_enter Tryz.func200, Tryz.ntmps200
 go_upto_region 1 with fail
 obtain ⟨W, hW, i4, a3, b0, b1⟩ := mk2 w #[.int .i64 2, .int .i64 1, eQ] 24 #[zQ, zQ, eQ, zQ, eQ] 27
 rw [hW]
 clear hW
 obtain ⟨c0, c1, c2⟩ := b0.t3
 have HD := sK b0
 have HE := sK b1
 have HF := sK a3
 clear b0 b1 a3 i4
 go_upto_region 4 with (go_at_call 291; refine (a6 _).mono ?_; rintro e w1 ⟨A, c, rfl, n3, s1⟩)
 obtain ⟨gp, og, rfl, j2, _⟩ := n3.cells (by omega)
 have HP := sK n3
 have i6 := n3.cap
 have g6 := n3.max
 unfold maxLen at g6
 have w5 := sK (Aa s1 HF.out)
 have r5 := sK (HD.below s1)
 have v5 := sK (HE.below s1)
 clear n3 s1 HF HD HE c0 c1 c2
 go_upto_region 5 with fail
 obtain ⟨Y0, g5, e6, i5, y0, y1⟩ := mk2 w1 #[eQ, eQ, eQ] 22 #[.int .i64 7, .slice (sQ w1.heap.size) 3 3] 52
 rw [g5]
 clear g5
 have h6 : w1.heap.size + 1 < Y0.heap.size := y1.lt
 have i2 := sK y0
 have v2 := sK y1
 have a4 := sK i5
 obtain ⟨gm, k4⟩ := xQ w1.heap.size
 have z3 := sK k4
 rw [<- k4] at i2 v2 h6 ⊢
 clear y0 y1 i5 e6 k4
 obtain ⟨m0, m1⟩ := v2.t2
 go_upto_region 6 with fail
 refine wp_loop_rounds 4 ?_
 rw [rounds_succ]
 go_upto_region 9 with fail
 clear m0 m1
 have l1 : Hid (∀ wx, Y0.grownBy wx (some gm) -> wx.cell? ⟨gm + 1, 1, none⟩ = some (.slice (sQ gm) 3 3) ∧ From w1 wx ∧ From Y0 Y0) := sK fun wx hg => by
  have hl := v2.kept hg (by simp); refine ⟨hl.c1, qac a4 hg a4.size (fun k hk => by injection hk with hk; have := z3.out; omega), From.refl _⟩
 go_loopw [35] (fun k1 wr => ∃ (j : Nat) (A : OQ) (c : Nat), j <= 7 ∧ k1 = nQ j ∧ OwnN wr Y0.heap.size A j c (colP 0 j) ∧ Blk wr gm #[.slice A j c, eQ, eQ] ∧ Y0.grownBy wr (some gm)) (fun k1 _ => 7 - (intOf k1).toNat)
 case atStart => exact ⟨0, none, 0, by omega, rfl, OwnN.nil _ _, i2.out, Uq _ _⟩
 case round =>
  obtain ⟨j, A, c, hj, rfl, j0, n0, a0⟩ := hrel; obtain ⟨wo, rfl⟩ := xQ wr; have v1 := n0.lt
  by_cases hj7 : j < 7
  ·have m5 : (j : Int) < 7 := by omega
   obtain ⟨b9, o9, Aj, cj, e9, _, f1, r0⟩ := (HP.below (l1 _ a0).2.1).at hj7; simp only [qc, qd, and_true] at e9; obtain ⟨rfl, rfl⟩ := e9; have i1 : (pts.getD j []).length = 3 := Tf j hj7; rw [i1] at f1 r0; obtain ⟨b, o, rfl, _, hx⟩ := r0.at (k := 0) (by omega); have j5 := r0.cap; have l3 := r0.max; unfold maxLen at l3; have HX : Hid (∀ wx, Y0.grownBy wx (some gm) -> wx.cell? ⟨b, o, none⟩ = some (.int .i64 (((pts.getD j []).getD 0 0 : Nat) : Int))) := sK fun wx hg => by
    obtain ⟨b9, o9, r4, c5, e9, _, k5, n5⟩ := (HP.below (l1 _ hg).2.1).at hj7; simp only [qc, qd, and_true] at e9; obtain ⟨rfl, rfl⟩ := e9; obtain ⟨b8, o8, s4, d5, e8, _, t1, f2⟩ := HP.at hj7; simp only [qc, qd, and_true] at e8; obtain ⟨rfl, rfl⟩ := e8; have h1 := ((l1 _ hg).2.1.cell (p := ⟨gp, og + j, none⟩) j2).trans t1; have h2 := ((l1 _ a0).2.1.cell (p := ⟨gp, og + j, none⟩) j2).trans t1; rw [i1] at h2; rw [f1] at h2; simp only [qc, qm] at h2; obtain ⟨rfl, _, rfl⟩ := h2; rw [i1] at f2; exact (f2.below (l1 _ hg).2.1).cellAt (k := 0) (by omega)
   obtain ⟨x, j1⟩ := xQ ((pts.getD j []).getD 0 0); rw [<- j1] at HX; have e1 := sK j1; have f3 : Y0.grownBy wo.drew (some gm) := a0.trans (Aw (bR).drew _); have g0 := sK a0; have h0 := sK j0; have o0 := sK n0; have x2 : wo.cell? ⟨gm + 1, 1, none⟩ = some (.slice (sQ gm) 3 3) ∧ wo.cell? ⟨b, o, none⟩ = some (nQ x) := ⟨(l1 _ a0).1, HX _ a0⟩
   have w2 : ∀ q, (wo.alloc q).cell? ⟨gm + 1, 1, none⟩ = some (.slice (sQ gm) 3 3) ∧ (wo.alloc q).cell? ⟨b, o, none⟩ = some (nQ x) := fun q => ⟨(l1 _ (a0.trans (Aw (Ac wo q) _))).1, HX _ (a0.trans (Aw (Ac wo q) _))⟩
   have l5 : ¬ gm = wo.heap.size := by omega
   have i3 : ∀ q, (wo.alloc q).cell? ⟨gm, 0, none⟩ = some (.slice A j c) := fun q => (n0.alloc q).c0
   have j3 : wo.cell? ⟨gm, 0, none⟩ = some (.slice A j c) := n0.c0; have x1 : (Value.slice A j c).ownBlock ≠ some gm := fun e => by
    have h1 := (j0.row.lt gm e).1; have h2 := i2.lt; omega
   have r1 := sK x1; have p5 : Y0.heap.size <= wo.heap.size := a0.size; clear j1 hx r0 a0 j0 n0 x1; go_upto_region 11 with fail
   clear f1; go_region_law (first
     | (refine step_append_lies _ rfl (.tmp 46) (.tmp 51) 22 rfl Y0.heap.size 3 i0 (zQ) 1 8 Tryz.underlying22 hi n4 o4 p4 rfl (by omega) _ j (ivs (colP 0 j)) rfl (h0.below (Ac wo _).drew).row _ 1 1 [nQ x] rfl rfl (Dv wo #[nQ x] 3) (by simp [Value.oneCell']) (by omega) (by unfold maxLen; omega) (by omega) (by simp; omega) _ rfl ?_; intro g2 l0 e0 a2 g1 z1 k3; have v0 := (o0.below (Ac wo (.cells #[nQ x] 3)).drew).kept g1 r1.out; have a1 : Y0.grownBy e0 (some gm) := Mc (g0.trans (Aw (Ac wo (.cells #[nQ x] 3)).drew _)) g1 (fun k hk => (h0.row.lt k hk).1); have z2 : e0.cell? ⟨gm + 1, 1, none⟩ = some (.slice (sQ gm) 3 3) ∧ e0.cell? ⟨b, o, none⟩ = some (nQ x) := ⟨(l1 _ a1).1, HX _ a1⟩; have g3 : e0.cell? ⟨gm, 0, none⟩ = some (.slice A j c) := v0.c0; have e3 : e0.frozen? ⟨gm, 0, none⟩ = false := v0.free 0))
   all_goals
    have o3 : x < 1000000 := by rw [e1.out]; exact qk (Mi j hj7 0 (by omega)) (by omega)
    have hN : OwnN (e0.setCell ⟨gm, 0, none⟩ (.slice (sQ g2) (j + 1) l0)) Y0.heap.size (sQ g2) (j + 1) l0 (colP 0 (j + 1)) := by
     have h1 : OwnN e0 Y0.heap.size (sQ g2) (j + 1) l0 (colP 0 (j + 1)) := ⟨by rw [Gj 0 (by omega) j hj7, Gm, <- e1.out]; exact a2, by rw [Gj 0 (by omega) j hj7, <- e1.out]; exact h0.sm.append (Sm.one o3)⟩
     refine h1.kept (Ad e0 gm 0 _) (fun g e e2 => ?_); have h2 : g = g2 := by simpa [eq_comm] using e
     have h3 : gm = g := by simpa using e2
     rcases z1 with h4 | h4
     ·have h5 : (Value.slice A j c).ownBlock = some g2 := h4
      exact r1 (by rw [h5, <- h2, <- h3])
     ·have := i2.lt
      simp at h4; omega
    have hG : Blk (e0.setCell ⟨gm, 0, none⟩ (.slice (sQ g2) (j + 1) l0)) gm #[.slice (sQ g2) (j + 1) l0, eQ, eQ] := by simpa using v0.set 0 (.slice (sQ g2) (j + 1) l0)
    have hK := a1.trans (Ad e0 gm 0 (.slice (sQ g2) (j + 1) l0)); have HN := sK hN; have r2 := sK hG; have s2 := sK hK; clear hN hG hK a2 g1 z1 k3 v0 a1 z2 g3 e3 x2 w2 i3 j3 f3; go_wp2; go_roundw
    case rel => exact ⟨j + 1, _, _, by omega, by go_num, HN.out, r2.out, s2.out⟩
    case measure => simp [intOf]; omega
  ·obtain rfl : j = 7 := by omega
   have h0 := sK j0; have o0 := sK n0; have g0 := sK a0; clear a0 j0 n0; obtain ⟨Y1, x0⟩ : ∃ Y, Y = wo := ⟨_, rfl⟩
   obtain ⟨A0, t0⟩ : ∃ A9, A9 = A := ⟨_, rfl⟩
   obtain ⟨c0, z0⟩ : ∃ c9, c9 = c := ⟨_, rfl⟩
   rw [<- x0, <- t0, <- z0] at h0; rw [<- x0, <- t0, <- z0] at o0; rw [<- x0] at g0 v1 ⊢; rw [<- t0, <- z0] at *; have o2 := o0; have r3 := sK (v2.kept g0 (by simp)); have b4 := sK (l1 _ g0.out).2.1; have k2 : Hid (RdN Y1 A0 7 c0 (colP 0 7) ∧ ∀ b f0, A0 = some ⟨b, f0, none⟩ -> gm < b ∧ b < Y1.heap.size) := sK ⟨h0.rd, fun b f0 e => by
    rcases h0.form with ⟨h1, _⟩ | ⟨g, h1, h2, h3, _⟩
    ·rw [h1] at e; cases e
    ·rw [h1] at e
     simp only [qc, qd, and_true] at e; have := i2.lt; omega⟩
   clear x0 t0 z0 o0 g0 h0 v1 i2 v2 a4 l1; obtain ⟨m0, m1⟩ := r3.t2; go_wp2; rw [rounds_succ]; go_upto_region 9 with fail
   clear m0 m1; have n1 : Hid (∀ wx, Y1.grownBy wx (some gm) -> wx.cell? ⟨gm + 1, 1, none⟩ = some (.slice (sQ gm) 3 3) ∧ From w1 wx ∧ From Y1 Y1) := sK fun wx hg => by
    have hl := r3.kept hg (by simp); refine ⟨hl.c1, qac b4 hg b4.size (fun k hk => by injection hk with hk; have := z3.out; omega), From.refl _⟩
   go_loopw [35] (fun k1 wr => ∃ (j : Nat) (A : OQ) (c : Nat), j <= 7 ∧ k1 = nQ j ∧ OwnN wr Y1.heap.size A j c (colP 1 j) ∧ Blk wr gm #[.slice A0 7 c0, .slice A j c, eQ] ∧ Y1.grownBy wr (some gm)) (fun k1 _ => 7 - (intOf k1).toNat)
   case atStart => exact ⟨0, none, 0, by omega, rfl, OwnN.nil _ _, o2.out, Uq _ _⟩
   case round =>
    obtain ⟨j, A, c, hj, rfl, j0, n0, a0⟩ := hrel; obtain ⟨wo, rfl⟩ := xQ wr; have v1 := n0.lt
    by_cases hj7 : j < 7
    ·have m5 : (j : Int) < 7 := by omega
     obtain ⟨b9, o9, Aj, cj, e9, _, f1, r0⟩ := (HP.below (n1 _ a0).2.1).at hj7; simp only [qc, qd, and_true] at e9; obtain ⟨rfl, rfl⟩ := e9; have i1 : (pts.getD j []).length = 3 := Tf j hj7; rw [i1] at f1 r0; obtain ⟨b, o, rfl, _, hx⟩ := r0.at (k := 1) (by omega); have j5 := r0.cap; have l3 := r0.max; unfold maxLen at l3; have HX : Hid (∀ wx, Y1.grownBy wx (some gm) -> wx.cell? ⟨b, o + 1, none⟩ = some (.int .i64 (((pts.getD j []).getD 1 0 : Nat) : Int))) := sK fun wx hg => by
      obtain ⟨b9, o9, r4, c5, e9, _, k5, n5⟩ := (HP.below (n1 _ hg).2.1).at hj7; simp only [qc, qd, and_true] at e9; obtain ⟨rfl, rfl⟩ := e9; obtain ⟨b8, o8, s4, d5, e8, _, t1, f2⟩ := HP.at hj7; simp only [qc, qd, and_true] at e8; obtain ⟨rfl, rfl⟩ := e8; have h1 := ((n1 _ hg).2.1.cell (p := ⟨gp, og + j, none⟩) j2).trans t1; have h2 := ((n1 _ a0).2.1.cell (p := ⟨gp, og + j, none⟩) j2).trans t1; rw [i1] at h2; rw [f1] at h2; simp only [qc, qm] at h2; obtain ⟨rfl, _, rfl⟩ := h2; rw [i1] at f2; exact (f2.below (n1 _ hg).2.1).cellAt (k := 1) (by omega)
     obtain ⟨x, j1⟩ := xQ ((pts.getD j []).getD 1 0); rw [<- j1] at HX; have e1 := sK j1; have f3 : Y1.grownBy wo.drew (some gm) := a0.trans (Aw (bR).drew _); have g0 := sK a0; have h0 := sK j0; have o0 := sK n0; have x2 : wo.cell? ⟨gm + 1, 1, none⟩ = some (.slice (sQ gm) 3 3) ∧ wo.cell? ⟨b, o + 1, none⟩ = some (nQ x) := ⟨(n1 _ a0).1, HX _ a0⟩
     have w2 : ∀ q, (wo.alloc q).cell? ⟨gm + 1, 1, none⟩ = some (.slice (sQ gm) 3 3) ∧ (wo.alloc q).cell? ⟨b, o + 1, none⟩ = some (nQ x) := fun q => ⟨(n1 _ (a0.trans (Aw (Ac wo q) _))).1, HX _ (a0.trans (Aw (Ac wo q) _))⟩
     have l5 : ¬ gm = wo.heap.size := by omega
     have i3 : ∀ q, (wo.alloc q).cell? ⟨gm, 1, none⟩ = some (.slice A j c) := fun q => (n0.alloc q).c1
     have j3 : wo.cell? ⟨gm, 1, none⟩ = some (.slice A j c) := n0.c1; have x1 : (Value.slice A j c).ownBlock ≠ some gm := fun e => by
      have h1 := (j0.row.lt gm e).1; have h2 := o2.lt; omega
     have r1 := sK x1; have p5 : Y1.heap.size <= wo.heap.size := a0.size; clear j1 hx r0 a0 j0 n0 x1; go_upto_region 11 with fail
     clear f1; go_region_law (first
       | (refine step_append_lies _ rfl (.tmp 46) (.tmp 51) 22 rfl Y1.heap.size 3 i0 (zQ) 1 8 Tryz.underlying22 hi n4 o4 p4 rfl (by omega) _ j (ivs (colP 1 j)) rfl (h0.below (Ac wo _).drew).row _ 1 1 [nQ x] rfl rfl (Dv wo #[nQ x] 3) (by simp [Value.oneCell']) (by omega) (by unfold maxLen; omega) (by omega) (by simp; omega) _ rfl ?_; intro g2 l0 e0 a2 g1 z1 k3; have v0 := (o0.below (Ac wo (.cells #[nQ x] 3)).drew).kept g1 r1.out; have a1 : Y1.grownBy e0 (some gm) := Mc (g0.trans (Aw (Ac wo (.cells #[nQ x] 3)).drew _)) g1 (fun k hk => (h0.row.lt k hk).1); have z2 : e0.cell? ⟨gm + 1, 1, none⟩ = some (.slice (sQ gm) 3 3) ∧ e0.cell? ⟨b, o + 1, none⟩ = some (nQ x) := ⟨(n1 _ a1).1, HX _ a1⟩; have g3 : e0.cell? ⟨gm, 1, none⟩ = some (.slice A j c) := v0.c1; have e3 : e0.frozen? ⟨gm, 1, none⟩ = false := v0.free 1))
     all_goals
      have o3 : x < 1000000 := by rw [e1.out]; exact qk (Mi j hj7 1 (by omega)) (by omega)
      have hN : OwnN (e0.setCell ⟨gm, 1, none⟩ (.slice (sQ g2) (j + 1) l0)) Y1.heap.size (sQ g2) (j + 1) l0 (colP 1 (j + 1)) := by
       have h1 : OwnN e0 Y1.heap.size (sQ g2) (j + 1) l0 (colP 1 (j + 1)) := ⟨by rw [Gj 1 (by omega) j hj7, Gm, <- e1.out]; exact a2, by rw [Gj 1 (by omega) j hj7, <- e1.out]; exact h0.sm.append (Sm.one o3)⟩
       refine h1.kept (Ad e0 gm 1 _) (fun g e e2 => ?_); have h2 : g = g2 := by simpa [eq_comm] using e
       have h3 : gm = g := by simpa using e2
       rcases z1 with h4 | h4
       ·have h5 : (Value.slice A j c).ownBlock = some g2 := h4
        exact r1 (by rw [h5, <- h2, <- h3])
       ·have := o2.lt
        simp at h4; omega
      have hG : Blk (e0.setCell ⟨gm, 1, none⟩ (.slice (sQ g2) (j + 1) l0)) gm #[.slice A0 7 c0, .slice (sQ g2) (j + 1) l0, eQ] := by simpa using v0.set 1 (.slice (sQ g2) (j + 1) l0)
      have hK := a1.trans (Ad e0 gm 1 (.slice (sQ g2) (j + 1) l0)); have HN := sK hN; have r2 := sK hG; have s2 := sK hK; clear hN hG hK a2 g1 z1 k3 v0 a1 z2 g3 e3 x2 w2 i3 j3 f3; go_wp2; go_roundw
      case rel => exact ⟨j + 1, _, _, by omega, by go_num, HN.out, r2.out, s2.out⟩
      case measure => simp [intOf]; omega
    ·obtain rfl : j = 7 := by omega
     have h0 := sK j0; have o0 := sK n0; have g0 := sK a0; clear a0 j0 n0; obtain ⟨Y2, x0⟩ : ∃ Y, Y = wo := ⟨_, rfl⟩
     obtain ⟨A1, t0⟩ : ∃ A9, A9 = A := ⟨_, rfl⟩
     obtain ⟨c1, z0⟩ : ∃ c9, c9 = c := ⟨_, rfl⟩
     rw [<- x0, <- t0, <- z0] at h0; rw [<- x0, <- t0, <- z0] at o0; rw [<- x0] at g0 v1 ⊢; rw [<- t0, <- z0] at *; have p2 := o0; have s3 := sK (r3.kept g0 (by simp)); have d4 := sK (n1 _ g0.out).2.1; have l2 : Hid (RdN Y2 A0 7 c0 (colP 0 7) ∧ ∀ b f0, A0 = some ⟨b, f0, none⟩ -> gm < b ∧ b < Y2.heap.size) := sK ⟨k2.out.1.kept g0 (fun b f0 e _ e2 => by have := (k2.out.2 b f0 e).1; omega), fun b f0 e => ⟨(k2.out.2 b f0 e).1, qk (k2.out.2 b f0 e).2 g0.size⟩⟩; have n2 : Hid (RdN Y2 A1 7 c1 (colP 1 7) ∧ ∀ b f0, A1 = some ⟨b, f0, none⟩ -> gm < b ∧ b < Y2.heap.size) := sK ⟨h0.rd, fun b f0 e => by
      rcases h0.form with ⟨h1, _⟩ | ⟨g, h1, h2, h3, _⟩
      ·rw [h1] at e; cases e
      ·rw [h1] at e
       simp only [qc, qd, and_true] at e; have := o2.lt; omega⟩
     clear x0 t0 z0 o0 g0 h0 v1 k2 o2 r3 b4 n1; obtain ⟨m0, m1⟩ := s3.t2; go_wp2; rw [rounds_succ]; go_upto_region 9 with fail
     clear m0 m1; have o1 : Hid (∀ wx, Y2.grownBy wx (some gm) -> wx.cell? ⟨gm + 1, 1, none⟩ = some (.slice (sQ gm) 3 3) ∧ From w1 wx ∧ From Y2 Y2) := sK fun wx hg => by
      have hl := s3.kept hg (by simp); refine ⟨hl.c1, qac d4 hg d4.size (fun k hk => by injection hk with hk; have := z3.out; omega), From.refl _⟩
     go_loopw [35] (fun k1 wr => ∃ (j : Nat) (A : OQ) (c : Nat), j <= 7 ∧ k1 = nQ j ∧ OwnN wr Y2.heap.size A j c (colP 2 j) ∧ Blk wr gm #[.slice A0 7 c0, .slice A1 7 c1, .slice A j c] ∧ Y2.grownBy wr (some gm)) (fun k1 _ => 7 - (intOf k1).toNat)
     case atStart => exact ⟨0, none, 0, by omega, rfl, OwnN.nil _ _, p2.out, Uq _ _⟩
     case round =>
      obtain ⟨j, A, c, hj, rfl, j0, n0, a0⟩ := hrel; obtain ⟨wo, rfl⟩ := xQ wr; have v1 := n0.lt
      by_cases hj7 : j < 7
      ·have m5 : (j : Int) < 7 := by omega
       obtain ⟨b9, o9, Aj, cj, e9, _, f1, r0⟩ := (HP.below (o1 _ a0).2.1).at hj7; simp only [qc, qd, and_true] at e9; obtain ⟨rfl, rfl⟩ := e9; have i1 : (pts.getD j []).length = 3 := Tf j hj7; rw [i1] at f1 r0; obtain ⟨b, o, rfl, _, hx⟩ := r0.at (k := 2) (by omega); have j5 := r0.cap; have l3 := r0.max; unfold maxLen at l3; have HX : Hid (∀ wx, Y2.grownBy wx (some gm) -> wx.cell? ⟨b, o + 2, none⟩ = some (.int .i64 (((pts.getD j []).getD 2 0 : Nat) : Int))) := sK fun wx hg => by
        obtain ⟨b9, o9, r4, c5, e9, _, k5, n5⟩ := (HP.below (o1 _ hg).2.1).at hj7; simp only [qc, qd, and_true] at e9; obtain ⟨rfl, rfl⟩ := e9; obtain ⟨b8, o8, s4, d5, e8, _, t1, f2⟩ := HP.at hj7; simp only [qc, qd, and_true] at e8; obtain ⟨rfl, rfl⟩ := e8; have h1 := ((o1 _ hg).2.1.cell (p := ⟨gp, og + j, none⟩) j2).trans t1; have h2 := ((o1 _ a0).2.1.cell (p := ⟨gp, og + j, none⟩) j2).trans t1; rw [i1] at h2; rw [f1] at h2; simp only [qc, qm] at h2; obtain ⟨rfl, _, rfl⟩ := h2; rw [i1] at f2; exact (f2.below (o1 _ hg).2.1).cellAt (k := 2) (by omega)
       obtain ⟨x, j1⟩ := xQ ((pts.getD j []).getD 2 0); rw [<- j1] at HX; have e1 := sK j1; have f3 : Y2.grownBy wo.drew (some gm) := a0.trans (Aw (bR).drew _); have g0 := sK a0; have h0 := sK j0; have o0 := sK n0; have x2 : wo.cell? ⟨gm + 1, 1, none⟩ = some (.slice (sQ gm) 3 3) ∧ wo.cell? ⟨b, o + 2, none⟩ = some (nQ x) := ⟨(o1 _ a0).1, HX _ a0⟩
       have w2 : ∀ q, (wo.alloc q).cell? ⟨gm + 1, 1, none⟩ = some (.slice (sQ gm) 3 3) ∧ (wo.alloc q).cell? ⟨b, o + 2, none⟩ = some (nQ x) := fun q => ⟨(o1 _ (a0.trans (Aw (Ac wo q) _))).1, HX _ (a0.trans (Aw (Ac wo q) _))⟩
       have l5 : ¬ gm = wo.heap.size := by omega
       have i3 : ∀ q, (wo.alloc q).cell? ⟨gm, 2, none⟩ = some (.slice A j c) := fun q => (n0.alloc q).c2
       have j3 : wo.cell? ⟨gm, 2, none⟩ = some (.slice A j c) := n0.c2; have x1 : (Value.slice A j c).ownBlock ≠ some gm := fun e => by
        have h1 := (j0.row.lt gm e).1; have h2 := p2.lt; omega
       have r1 := sK x1; have p5 : Y2.heap.size <= wo.heap.size := a0.size; clear j1 hx r0 a0 j0 n0 x1; go_upto_region 11 with fail
       clear f1; go_region_law (first
         | (refine step_append_lies _ rfl (.tmp 46) (.tmp 51) 22 rfl Y2.heap.size 3 i0 (zQ) 1 8 Tryz.underlying22 hi n4 o4 p4 rfl (by omega) _ j (ivs (colP 2 j)) rfl (h0.below (Ac wo _).drew).row _ 1 1 [nQ x] rfl rfl (Dv wo #[nQ x] 3) (by simp [Value.oneCell']) (by omega) (by unfold maxLen; omega) (by omega) (by simp; omega) _ rfl ?_; intro g2 l0 e0 a2 g1 z1 k3; have v0 := (o0.below (Ac wo (.cells #[nQ x] 3)).drew).kept g1 r1.out; have a1 : Y2.grownBy e0 (some gm) := Mc (g0.trans (Aw (Ac wo (.cells #[nQ x] 3)).drew _)) g1 (fun k hk => (h0.row.lt k hk).1); have z2 : e0.cell? ⟨gm + 1, 1, none⟩ = some (.slice (sQ gm) 3 3) ∧ e0.cell? ⟨b, o + 2, none⟩ = some (nQ x) := ⟨(o1 _ a1).1, HX _ a1⟩; have g3 : e0.cell? ⟨gm, 2, none⟩ = some (.slice A j c) := v0.c2; have e3 : e0.frozen? ⟨gm, 2, none⟩ = false := v0.free 2))
       all_goals
        have o3 : x < 1000000 := by rw [e1.out]; exact qk (Mi j hj7 2 (by omega)) (by omega)
        have hN : OwnN (e0.setCell ⟨gm, 2, none⟩ (.slice (sQ g2) (j + 1) l0)) Y2.heap.size (sQ g2) (j + 1) l0 (colP 2 (j + 1)) := by
         have h1 : OwnN e0 Y2.heap.size (sQ g2) (j + 1) l0 (colP 2 (j + 1)) := ⟨by rw [Gj 2 (by omega) j hj7, Gm, <- e1.out]; exact a2, by rw [Gj 2 (by omega) j hj7, <- e1.out]; exact h0.sm.append (Sm.one o3)⟩
         refine h1.kept (Ad e0 gm 2 _) (fun g e e2 => ?_); have h2 : g = g2 := by simpa [eq_comm] using e
         have h3 : gm = g := by simpa using e2
         rcases z1 with h4 | h4
         ·have h5 : (Value.slice A j c).ownBlock = some g2 := h4
          exact r1 (by rw [h5, <- h2, <- h3])
         ·have := p2.lt
          simp at h4; omega
        have hG : Blk (e0.setCell ⟨gm, 2, none⟩ (.slice (sQ g2) (j + 1) l0)) gm #[.slice A0 7 c0, .slice A1 7 c1, .slice (sQ g2) (j + 1) l0] := by simpa using v0.set 2 (.slice (sQ g2) (j + 1) l0)
        have hK := a1.trans (Ad e0 gm 2 (.slice (sQ g2) (j + 1) l0)); have HN := sK hN; have r2 := sK hG; have s2 := sK hK; clear hN hG hK a2 g1 z1 k3 v0 a1 z2 g3 e3 x2 w2 i3 j3 f3; go_wp2; go_roundw
        case rel => exact ⟨j + 1, _, _, by omega, by go_num, HN.out, r2.out, s2.out⟩
        case measure => simp [intOf]; omega
      ·obtain rfl : j = 7 := by omega
       have h0 := sK j0; have o0 := sK n0; have g0 := sK a0; clear a0 j0 n0; obtain ⟨Y3, x0⟩ : ∃ Y, Y = wo := ⟨_, rfl⟩
       obtain ⟨A2, t0⟩ : ∃ A9, A9 = A := ⟨_, rfl⟩
       obtain ⟨c2, z0⟩ : ∃ c9, c9 = c := ⟨_, rfl⟩
       rw [<- x0, <- t0, <- z0] at h0; rw [<- x0, <- t0, <- z0] at o0; rw [<- x0] at g0 v1 ⊢; rw [<- t0, <- z0] at *; have p3 := o0; have b5 := sK (s3.kept g0 (by simp)); have e4 := sK (o1 _ g0.out).2.1; have t4 : Hid (RdN Y3 A0 7 c0 (colP 0 7) ∧ ∀ b f0, A0 = some ⟨b, f0, none⟩ -> gm < b ∧ b < Y3.heap.size) := sK ⟨l2.out.1.kept g0 (fun b f0 e _ e2 => by have := (l2.out.2 b f0 e).1; omega), fun b f0 e => ⟨(l2.out.2 b f0 e).1, qk (l2.out.2 b f0 e).2 g0.size⟩⟩; have v4 : Hid (RdN Y3 A1 7 c1 (colP 1 7) ∧ ∀ b f0, A1 = some ⟨b, f0, none⟩ -> gm < b ∧ b < Y3.heap.size) := sK ⟨n2.out.1.kept g0 (fun b f0 e _ e2 => by have := (n2.out.2 b f0 e).1; omega), fun b f0 e => ⟨(n2.out.2 b f0 e).1, qk (n2.out.2 b f0 e).2 g0.size⟩⟩; have w4 : Hid (RdN Y3 A2 7 c2 (colP 2 7) ∧ ∀ b f0, A2 = some ⟨b, f0, none⟩ -> gm < b ∧ b < Y3.heap.size) := sK ⟨h0.rd, fun b f0 e => by
        rcases h0.form with ⟨h1, _⟩ | ⟨g, h1, h2, h3, _⟩
        ·rw [h1] at e; cases e
        ·rw [h1] at e
         simp only [qc, qd, and_true] at e; have := p2.lt; omega⟩
       clear x0 t0 z0 o0 g0 h0 v1 l2 n2 p2 s3 d4 o1; obtain ⟨m0, m1⟩ := b5.t2; go_wp2; rw [rounds_succ]; clear m0 m1; have e5 : RdM Y3 (sQ gm) 3 3 simR := ⟨rfl, by omega, by unfold maxLen; omega, fun _ => ⟨gm, 0, rfl, p3.lt, fun i hi => by
        rcases (by omega : i = 0 ∨ i = 1 ∨ i = 2) with rfl | rfl | rfl
        ·refine ⟨A0, c0, ?_, t4.out.1⟩
         show Y3.cell? ⟨gm, 0 + 0, none⟩ = some (.slice A0 7 c0); exact p3.cell (i := 0 + 0) (by simp)
        ·refine ⟨A1, c1, ?_, v4.out.1⟩
         show Y3.cell? ⟨gm, 0 + 1, none⟩ = some (.slice A1 7 c1); exact p3.cell (i := 0 + 1) (by simp)
        ·refine ⟨A2, c2, ?_, w4.out.1⟩
         show Y3.cell? ⟨gm, 0 + 2, none⟩ = some (.slice A2 7 c2); exact p3.cell (i := 0 + 2) (by simp)⟩⟩
       have b6 := sK (z5 Y3 _ e5); have x4 := r5.below e4.out; have a5 := sK (v5.below e4.out); have y5 := sK (Aa e4 w5.out); obtain ⟨d0, d1, d2⟩ := x4.t3; obtain ⟨m0, m1⟩ := b5.t2; clear e5 x4 t4 v4 w4; go_wp2_with (go_at_call 58; refine b6.mono ?_; rintro e w7 ⟨B, A9, c9, rfl, j4, j0, d3⟩; have Y7 := a5.below d3; have y0 := Y7.c0; have u0 := Y7.free 0; have y1 := Y7.c1; have u1 := Y7.free 1; have y2 := Y7.c2; have u2 := Y7.free 2; have y3 := Y7.c3; have u3 := Y7.free 3; have y4 := Y7.c4; have u4 := Y7.free 4); have g4 := Aa d3 y5.out; have l4 := a5.lt; obtain ⟨Z, hZ, w3, x3, f4⟩ := Ca Y7 g4 (by omega) [.int .i64 2, .int .i64 1, .slice A9 0 c9, .int .i64 7, .slice B (Bc F2.fld simR 7).1.length (Bc F2.fld simR 7).1.length] (by simp); simp only [putC] at hZ; rw [hZ]; clear hZ; obtain ⟨q0, q1, q2, q3, q4⟩ := w3.t5; exact bodyPost_ret (v := .tuple #[.agg #[.int .i64 2, .int .i64 1, .slice A9 0 c9, .int .i64 7, .slice B (Bc F2.fld simR 7).1.length (Bc F2.fld simR 7).1.length], zQ]) (by simp [results, Tryz.results200, go_sem, q0, q1, q2, q3, q4]) rfl ⟨B, A9, c9, rfl, j4, (j0.kept f4 l4).mono (by omega), x3⟩
def Fa : LQ := kern F2.fld (Bc F2.fld simR 7).1 7
theorem kD : (Bc F2.fld simR 7).1.length <= 256 := qs (Bn Ew.fldOk Lj).2.2 (by decide)
theorem Ww (w : WQ) : cQ 198 #[f2V, .int .i64 3] w (Fz 7 Fa w) := by
 have c6 := sK Vi
 have o5 := Bn Ew.fldOk Lj
 have s5 : Hid (∀ wx B A c, c <= maxLen -> RdM wx B (Bc F2.fld simR 7).1.length (Bc F2.fld simR 7).1.length (Bc F2.fld simR 7).1 -> cQ 10 #[.agg #[.int .i64 2, .int .i64 1, .slice A 0 c, .int .i64 7, .slice B (Bc F2.fld simR 7).1.length (Bc F2.fld simR 7).1.length]] wx (Fz 7 Fa wx)) := sK fun wx B A c hc h => (Il wx F2 Ew A c (RdN.empty wx A c hc) 7 _ _ B _ (Bc F2.fld simR 7).2 h o5.1 (by omega) (by omega) kD).mono fun e w' ⟨A, c, B, h1, h2, h3, h4, _⟩ => ⟨B, A, c, h1, h2.max, h3, h4⟩
 clear o5
 unfold Fz at *
 unfold f2V at *
 go_enter Tryz.func198, Tryz.ntmps198
 go_upto_region 1 with fail
 obtain ⟨W, hW, i4, a3, b0, b1⟩ := mk2 w #[.int .i64 2, .int .i64 1, eQ] 24 #[zQ, zQ, eQ, zQ, eQ] 27
 rw [hW]
 clear hW
 obtain ⟨c0, c1, c2⟩ := b0.t3
 have HE := sK b1
 have HF := sK a3
 clear b0 b1 a3 i4
 go_upto_region 2 with (go_at_call 200; refine (c6 _).mono ?_; rintro e w1 ⟨B, A0, c0, rfl, f6, j0, s1⟩)
 obtain ⟨W2, f5, d6, v3, q5⟩ := mk1 w1 #[.int .i64 2, .int .i64 1, .slice A0 0 c0, .int .i64 7, .slice B (Bc F2.fld simR 7).1.length (Bc F2.fld simR 7).1.length] 27
 rw [f5]
 clear f5
 have z4 := sK (HE.below (Aa v3 s1))
 have x5 := sK (Aa (Aa v3 s1) HF.out)
 have u5 := sK (s5 W2 B A0 c0 f6 (j0.below v3).rd)
 obtain ⟨m0, m1, m2, m3, m4⟩ := q5.t5
 clear v3 d6 q5 j0 s1 HF HE c1 c2
 go_wp2_with (go_at_call 10; refine u5.mono ?_; rintro e w7 ⟨B8, A9, c9, rfl, j4, j0, d3⟩; have Y7 := z4.below d3; have y0 := Y7.c0; have u0 := Y7.free 0; have y1 := Y7.c1; have u1 := Y7.free 1; have y2 := Y7.c2; have u2 := Y7.free 2; have y3 := Y7.c3; have u3 := Y7.free 3; have y4 := Y7.c4; have u4 := Y7.free 4)
 have g4 := Aa d3 x5.out
 have l4 := z4.lt
 obtain ⟨Z, hZ, w3, x3, f4⟩ := Ca Y7 g4 (by omega) [.int .i64 2, .int .i64 1, .slice A9 0 c9, .int .i64 7, .slice B8 Fa.length Fa.length] (by simp)
 simp only [putC] at hZ
 rw [hZ]
 clear hZ
 obtain ⟨q0, q1, q2, q3, q4⟩ := w3.t5
 exact bodyPost_ret (v := .tuple #[.agg #[.int .i64 2, .int .i64 1, .slice A9 0 c9, .int .i64 7, .slice B8 Fa.length Fa.length], zQ]) (by simp [results, Tryz.results198, go_sem, q0, q1, q2, q3, q4]) rfl ⟨B8, A9, c9, rfl, j4, (j0.kept f4 l4).mono (by omega), x3⟩
def hamL : LQ := [[1, 0, 0, 0, 0, 1, 1], [0, 1, 0, 0, 1, 0, 1], [0, 0, 1, 0, 1, 1, 0], [0, 0, 0, 1, 1, 1, 1]]
set_option maxRecDepth 100000 in
theorem Sg : Fa = hamL := by decide +kernel
def Ur : Nat -> NQ | 0 => [] | 1 => [0, 1, 2, 3] | _ => [0, 1, 2, 3, 0, 4, 5, 6]
def Or_ : Nat -> NQ | 1 => [4, 5, 6, 0, 1, 2, 3] | _ => [0, 1, 2, 3, 4, 5, 6]
def Gr : Nat -> NQ | 1 => [4, 5, 6, 0] | _ => [0, 1, 2, 3]
def Sr : Nat -> NQ | 1 => [0, 4, 5, 6] | _ => [0, 1, 2, 3]
def Nr : Nat -> Nat | 0 => 4 | 1 => 3 | _ => 0
def inU (U : NQ) (b : Bool) (p : Nat) : NQ := (List.range p).filter (fun x => decide (x ∈ U) == b)
theorem Wj (U : NQ) (b : Bool) (p : Nat) : inU U b (p + 1) = inU U b p ++ (if decide (p ∈ U) == b then [p] else []) := by
 unfold inU
 rw [qaj, List.filter_append]
 congr 1
 simp only [List.filter_cons, List.filter_nil]
theorem rG : ∀ r, r < 3 -> inU (Ur r) false 7 ++ inU (Ur r) true 7 = Or_ r := by decide
theorem rZ : ∀ r, r < 3 -> (Or_ r).length = 7 ∧ ∀ x ∈ Or_ r, x < 7 := by decide
set_option maxRecDepth 100000 in
theorem sD : ∀ r, r < 3 -> (grd F2 hamL (Or_ r) 7).2 = Gr r := by decide +kernel
theorem rL : ∀ r, r < 3 -> (Gr r).length = 4 ∧ (∀ x ∈ Gr r, x < 7) ∧ (Sr r).length = 4 := by decide
theorem bZ : ∀ r, r < 2 -> Ur (r + 1) = Ur r ++ Sr r := by decide
theorem fT : ∀ r, r < 3 -> ((Gr r).map (fun x : Nat => (x : Int))).mergeSort (fun x y => decide (x <= y)) = (Sr r).map (fun x : Nat => (x : Int)) := by
 intro r hr
 rcases (by omega : r = 0 ∨ r = 1 ∨ r = 2) with rfl | rfl | rfl <;> simp [Gr, Sr, List.mergeSort, List.MergeSort.Internal.splitInTwo]
def newC (U S : NQ) (i : Nat) : Nat := ((S.take i).filter (fun x => !decide (x ∈ U))).length
theorem gY : ∀ r, r < 3 -> ∀ i, i < 4 -> newC (Ur r) (Gr r) (i + 1) = newC (Ur r) (Gr r) i + (if (Gr r).getD i 0 ∈ Ur r then 0 else 1) := by decide
theorem lC : ∀ r, r < 3 -> newC (Ur r) (Gr r) 4 = Nr r := by decide
theorem qB : ∀ r, r < 3 -> ∀ i, i < 5 -> newC (Ur r) (Gr r) i <= 4 := by decide
section
open Go.RowKit Go.Sort
theorem jC (w : WQ) (base g n c : Nat) (l sl : NQ) (ho : OwnN w base (sQ g) n c l) (hs : (l.map (fun x : Nat => (x : Int))).mergeSort (fun x y => decide (x <= y)) = sl.map (fun x : Nat => (x : Int))) (hm : Sm sl) (hn9 : n <= 100000) : cQ 144 #[.slice (sQ g) n c] w (fun e w' => e = .returned (.tuple #[]) ∧ OwnN w' base (sQ g) n c sl ∧ w.grownBy w' (some g)) := by
 have hl := ho.len
 have c0 := ho.le
 unfold maxLen at c0
 have b0 : ∀ k : NQ, (k.map (fun x : Nat => (x : Int))).map (Value.int .i64) = ivs k := fun k => by simp [ivs, iv]
 rcases ho.row.2 with ⟨h1, _⟩ | ⟨g', cap, cur, h1, hb, hg, hn, hcap, hsz, htk⟩
 ·cases h1
 ·simp only [qm, qc, qd, and_true, true_and] at h1
  obtain ⟨rfl, rfl⟩ := h1; have a0 : (l.map (fun x : Nat => (x : Int))).length = n := by rw [qak]; exact hl
  have hH : Holds (Value.int .i64) w g 0 (l.map (fun x : Nat => (x : Int))).toArray := holds_of_blockI hg (by rw [a0, b0]; simpa using htk); have hc := Tryz.slices_Sort_int g 0 c (l.map (fun x : Nat => (x : Int))) w hH (qg.1 hg).1 (by rw [a0]; omega); rw [a0] at hc; refine hc.mono ?_; rintro e w' ⟨rfl, m, os, rfl⟩; rw [hs]; have d0 : sl.length = l.length := by
   have := congrArg List.length hs; simp only [qak, List.length_mergeSort] at this; exact this.symm
  refine ⟨rfl, ⟨?_, hm⟩, grownBy_sortedI _⟩; have h9 := ownsRow_sortedI (n := m) (os := os) (base := base) (ss := l.map (fun x : Nat => (x : Int))) (ts := sl.map (fun x : Nat => (x : Int))) (by simp [d0]) hb hg (by rw [a0]; exact hn) hcap hsz; rw [b0, a0] at h9; exact h9
end
end Go.Proofs.YtoalkldfhkabnaaGreatDoor
