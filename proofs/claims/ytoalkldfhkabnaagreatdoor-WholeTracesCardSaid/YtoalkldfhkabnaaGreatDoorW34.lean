/- Part of WholeTraces. -/
import Derived.Deep.RegionHeldLaw
import Derived.LoopN
import Derived.Deep.Cut
import Derived.Deep.CutRange
import Derived.Test.YtoalkldfhkabnaaGreatDoorW00
import Derived.Test.YtoalkldfhkabnaaGreatDoorW05
import Derived.Test.YtoalkldfhkabnaaGreatDoorW07
import Derived.Test.YtoalkldfhkabnaaGreatDoorW10
import Derived.Test.YtoalkldfhkabnaaGreatDoorW11
import Derived.Test.YtoalkldfhkabnaaGreatDoorW28
import Derived.Test.YtoalkldfhkabnaaGreatDoorW33
set_option linter.all false
set_option maxRecDepth 10000
set_option maxHeartbeats 16000000
namespace Go.Proofs.YtoalkldfhkabnaaGreatDoor
open Go.RowKit Fq
def putC (W : WQ) (b : Nat) : Nat -> VQ -> WQ
 | _, [] => W
 | i, v :: vs => putC (W.setCell ⟨b, i, none⟩ v) b (i + 1) vs
theorem Va {b : Nat} : ∀ (l : VQ) (W : WQ) (i : Nat) (cs : Array Value), Blk W b cs -> i + l.length = cs.size -> Blk (putC W b i l) b (cs.toList.take i ++ l).toArray
 | [], W, i, cs, h, hl => by
  have e : (cs.toList.take i ++ []).toArray = cs := by
   have : cs.toList.take i = cs.toList := qq (by simp at hl ⊢; omega); rw [this, qas, Array.toArray_toList]
  rw [e]; exact h
 | v :: vs, W, i, cs, h, hl => by
  have hi : i < cs.size := by simp at hl; omega
  have h2 := Va vs (W.setCell ⟨b, i, none⟩ v) (i + 1) (cs.setIfInBounds i v) (h.set i v) (by simp at hl ⊢; omega); have e : (cs.setIfInBounds i v).toList.take (i + 1) ++ vs = cs.toList.take i ++ v :: vs := by
   have m1 : i < cs.toList.length := by simpa using hi
   rw [Array.toList_setIfInBounds, List.take_set, List.take_add_one]; simp only [qh m1, Option.toList]; rw [qbo _ _ (by simp; omega)]; simp [qci (Nat.le_of_lt hi)]
  rw [e] at h2; exact h2
theorem Kf {b : Nat} : ∀ (l : VQ) (W : WQ) (i : Nat), W.grownBy (putC W b i l) (some b)
 | [], W, i => Uq _ _
 | v :: vs, W, i => (Ad W b i v).trans (Kf vs _ _)
theorem My {w : WQ} {b : Nat} (hb : w.heap.size <= b) : ∀ (l : VQ) (W : WQ) (i : Nat), From w W -> From w (putC W b i l)
 | [], W, i, h => h
 | v :: vs, W, i, h => My hb vs _ _ (h.setCell (p := ⟨b, i, none⟩) hb v)
theorem Ca {w W : WQ} {b : Nat} {cs : Array Value} (hB : Blk W b cs) (hF : From w W) (hb : w.heap.size <= b) (l : VQ) (hl : l.length = cs.size) :
  ∃ Z, putC W b 0 l = Z ∧ Blk Z b l.toArray ∧ From w Z ∧ W.grownBy Z (some b) :=
 ⟨_, rfl, by simpa using Va l W 0 cs hB (by simpa using hl), My hb l W 0 hF, Kf l W 0⟩
def F2 : FD := ⟨2, 0, 0, 1⟩
theorem Ew : F2.Ok := ⟨by decide, fun d h1 h2 => absurd h2 (by show ¬ d < 2; omega), by decide, fun _ => rfl, by decide, by decide, by decide, fun k h1 h2 => absurd h2 (by show ¬ k < 1; omega), fun y h1 h2 => absurd h2 (by show ¬ y < 1; omega)⟩
theorem Ro {b : Nat} : ∀ (l : VQ) (W : WQ) (i : Nat) (cs : Array Value), Blk W b cs -> i + l.length <= cs.size -> Blk (putC W b i l) b (cs.toList.take i ++ l ++ cs.toList.drop (i + l.length)).toArray
 | [], W, i, cs, h, hl => by
  have e : (cs.toList.take i ++ [] ++ cs.toList.drop (i + 0)).toArray = cs := by simp
  rw [show ([] : VQ).length = 0 from rfl, e]; exact h
 | v :: vs, W, i, cs, h, hl => by
  have hi : i < cs.size := by simp at hl; omega
  have h2 := Ro vs (W.setCell ⟨b, i, none⟩ v) (i + 1) (cs.setIfInBounds i v) (h.set i v) (by simp at hl ⊢; omega); have e : (cs.setIfInBounds i v).toList.take (i + 1) ++ vs = cs.toList.take i ++ v :: vs := by
   have m1 : i < cs.toList.length := by simpa using hi
   rw [Array.toList_setIfInBounds, List.take_set, List.take_add_one]; simp only [qh m1, Option.toList]; rw [qbo _ _ (by simp; omega)]; simp [qci (Nat.le_of_lt hi)]
  have e2 : (cs.setIfInBounds i v).toList.drop (i + 1 + vs.length) = cs.toList.drop (i + (v :: vs).length) := by
   rw [Array.toList_setIfInBounds, List.drop_set_of_lt (by omega)]
   congr 1
   simp; omega
  rw [e, e2] at h2; exact h2
theorem Xi {w W : WQ} {b : Nat} {cs : Array Value} (hB : Blk W b cs) (hF : From w W) (hb : w.heap.size <= b) (i : Nat) (l : VQ) (hl : i + l.length <= cs.size) :
  ∃ Z, putC W b i l = Z ∧ Blk Z b (cs.toList.take i ++ l ++ cs.toList.drop (i + l.length)).toArray ∧ From w Z ∧ W.grownBy Z (some b) :=
 ⟨_, rfl, Ro l W i cs hB hl, My hb l W i hF, Kf l W i⟩
def f2V : Value := .agg #[.int .i64 2, .int .i64 1, eQ]
theorem sA (w : WQ) : cQ 103 #[.int .i64 2, .int .i64 1] w (Ba (.int .i64 2) w) := Jd w F2 Ew
theorem Ti (w : WQ) : cQ 134 #[.int .i64 2] w (Ah (.tuple #[f2V, zQ]) w) := by
 have HO := sK sA
 unfold Ba at HO
 unfold Ah f2V
 go_enter Tryz.func134, Tryz.ntmps134
 go_upto_region 1 with fail
 obtain ⟨W, hW, i0, a0, b0⟩ := mk1 w #[zQ, zQ, eQ] 24
 rw [hW]
 clear hW
 obtain ⟨c0, c1, c2⟩ := b0.t3
 obtain ⟨f0, f1, f2⟩ := b0.u3
 have HB := sK b0
 have HF := sK a0
 clear b0 a0 i0
 go_wp2
 refine wp_loop_rounds 1 ?_
 rw [rounds_succ]
 go_wp2
 refine wp_loop_rounds 1 ?_
 rw [rounds_succ]
 go_wp2_with (go_at_call 103; refine (HO _).mono ?_; rintro e w' ⟨rfl, rfl⟩)
 obtain ⟨Z, hZ, z1, g2, _⟩ := Ca HB HF (qb _) [.int .i64 2, .int .i64 1, eQ] (by simp)
 simp only [putC] at hZ
 rw [hZ]
 clear hZ
 obtain ⟨c0, c1, c2⟩ := z1.t3
 exact bodyPost_ret (v := .tuple #[.agg #[.int .i64 2, .int .i64 1, eQ], zQ]) (by simp [results, Tryz.results134, go_sem, c0, c1, c2]) rfl ⟨rfl, g2⟩
def numL (n : Nat) : VQ := [zQ, zQ, eQ, zQ, zQ, eQ, zQ, eQ, nQ n, eQ]
def gfL : VQ := [.int .i64 2, .int .i64 1, eQ, zQ, zQ, eQ, zQ, eQ, zQ, eQ]
def Py (A0 : OQ) (c0 N : Nat) (B : OQ) (k c : Nat) : VQ := [zQ, zQ, eQ, .int .i64 2, .int .i64 1, .slice A0 0 c0, nQ N, .slice B k c, zQ, eQ]
theorem kP (w : WQ) (g : Nat) (hg : Blk w g (numL 2).toArray) : cQ 133 #[.slice (sQ g) 1 1] w (Ah (.tuple #[f2V, zQ]) w) := by
 have HO := sK Ti
 unfold Ah f2V at HO
 unfold Ah f2V
 have HG := sK hg
 clear hg
 go_enter Tryz.func133, Tryz.ntmps133
 go_upto_region 1 with fail
 obtain ⟨W, hW, i0, a0, b0⟩ := mk1 w #[zQ, zQ, eQ] 24
 rw [hW]
 clear hW
 have n8 := (HG.below a0).cell (i := 8) (by simp [numL])
 simp [numL] at n8
 obtain ⟨c0, c1, c2⟩ := b0.t3
 obtain ⟨f0, f1, f2⟩ := b0.u3
 have HB := sK b0
 have HF := sK a0
 clear b0 a0 i0
 go_wp2_with (go_at_call 134; refine (HO _).mono ?_; rintro e W1 ⟨rfl, g0⟩; have B1 := HB.below g0; have d0 := B1.c0; have d1 := B1.c1; have d2 := B1.c2; have e0 := B1.free 0; have e1 := B1.free 1; have e2 := B1.free 2)
 obtain ⟨Z, hZ, l0, m0, n0⟩ := Ca B1 (Aa g0 HF.out) (qb _) [.int .i64 2, .int .i64 1, eQ] (by simp)
 simp only [putC] at hZ
 rw [hZ]
 clear hZ
 obtain ⟨q0, q1, q2⟩ := l0.t3
 exact bodyPost_ret (v := .tuple #[.agg #[.int .i64 2, .int .i64 1, eQ], zQ]) (by simp [results, Tryz.results133, go_sem, q0, q1, q2]) rfl ⟨rfl, m0⟩
theorem fV (w : WQ) (g b1 : Nat) (hg : Blk w g (numL 2).toArray) (hb : An w b1 194 #[.func (Fn.func 133) #[] #[]]) : cQ 187 #[.slice (sQ g) 1 1, pQ b1] w (Ah (.tuple #[.agg gfL.toArray, zQ]) w) := by
 have HO : Hid (∀ wx, From w wx -> cQ 133 #[.slice (sQ g) 1 1] wx (Ah (.tuple #[f2V, zQ]) wx)) := sK fun wx h => kP wx g (hg.below h)
 unfold Ah f2V at HO
 unfold Ah gfL
 have j0 := sK hb
 clear hg hb
 go_enter Tryz.func187, Tryz.ntmps187
 go_upto_region 1 with fail
 obtain ⟨W, hW, i0, a0, b0⟩ := mk1 w #[zQ, zQ, eQ, zQ, zQ, eQ, zQ, eQ, zQ, eQ] 84
 rw [hW]
 clear hW
 have x0 := (j0.from a0).cell 0
 simp at x0
 have HB := sK b0
 have HF := sK a0
 clear b0 a0 i0
 go_upto_region 2 with (go_at_call 133; refine (HO _ HF.out).mono ?_; rintro e W1 ⟨rfl, g0⟩)
 obtain ⟨W2, o0, k1, h0, o1⟩ := mk1 W1 #[.int .i64 2, .int .i64 1, eQ] 24
 rw [o0]
 clear o0
 have BF := HB.below (Aa h0 g0)
 have FF := Aa (Aa h0 g0) HF.out
 obtain ⟨y0, y1, y2⟩ := o1.t3
 obtain ⟨b0, b1, b2, b3, b4, b5, b6, b7, b8, b9⟩ := BF.t10
 obtain ⟨f0, f1, f2, f3, f4, f5, f6, f7, f8, f9⟩ := BF.u10
 clear k1 h0 g0 HB HF HO j0 x0
 go_wp2
 obtain ⟨Z, hZ, l0, m0, n0⟩ := Ca BF FF (qb _) [.int .i64 2, .int .i64 1, eQ, zQ, zQ, eQ, zQ, eQ, zQ, eQ] (by simp)
 simp only [putC] at hZ
 rw [hZ]
 clear hZ
 obtain ⟨q0, q1, q2, q3, q4, q5, q6, q7, q8, q9⟩ := l0.t10
 exact bodyPost_ret (v := .tuple #[.agg #[.int .i64 2, .int .i64 1, eQ, zQ, zQ, eQ, zQ, eQ, zQ, eQ], zQ]) (by simp [results, Tryz.results187, go_sem, q0, q1, q2, q3, q4, q5, q6, q7, q8, q9]) rfl ⟨rfl, m0⟩
def Fz (N : Nat) (K : LQ) (w : WQ) (e : Ending) (w' : WQ) : Prop :=
 ∃ B A0 c0, e = .returned (.tuple #[.agg #[.int .i64 2, .int .i64 1, .slice A0 0 c0, nQ N, .slice B K.length K.length], zQ]) ∧ c0 <= maxLen ∧ OwnM w' w.heap.size B K.length K.length K ∧ From w w'
def RetV (N : Nat) (K : LQ) (w : WQ) (e : Ending) (w' : WQ) : Prop :=
 ∃ B A0 c0, e = .returned (.tuple #[.agg (Py A0 c0 N B K.length K.length).toArray, zQ]) ∧ c0 <= maxLen ∧ OwnM w' w.heap.size B K.length K.length K ∧ From w w'
def IsHc (base N : Nat) (K : LQ) (v : Value) (w : WQ) : Prop := ∃ B A0 c0, v = .agg #[.int .i64 2, .int .i64 1, .slice A0 0 c0, nQ N, .slice B K.length K.length] ∧ c0 <= maxLen ∧ OwnM w base B K.length K.length K
def Rf (base N : Nat) (K : LQ) (v : Value) (w : WQ) : Prop := ∃ B A0 c0, v = .tuple #[.agg #[.int .i64 2, .int .i64 1, .slice A0 0 c0, nQ N, .slice B K.length K.length], zQ] ∧ c0 <= maxLen ∧ OwnM w base B K.length K.length K
theorem IsHc.lasting {base N : Nat} {K : LQ} : ∀ v w w', Below w.heap.size w w' -> IsHc base N K v w -> IsHc base N K v w' := fun _ _ _ hb ⟨B, A0, c0, h1, h3, h2⟩ => ⟨B, A0, c0, h1, h3, h2.below hb⟩
theorem Rf.lasting {base N : Nat} {K : LQ} : ∀ v w w', Below w.heap.size w w' -> Rf base N K v w -> Rf base N K v w' := fun _ _ _ hb ⟨B, A0, c0, h1, h3, h2⟩ => ⟨B, A0, c0, h1, h3, h2.below hb⟩
theorem Zl (w : WQ) (N : Nat) (K : LQ) (HC : ∀ wx, From w wx -> cQ 198 #[f2V, .int .i64 3] wx (Fz N K wx)) (g b2 : Nat) (cs : VQ) (hl : cs.length = 20) (hcs : cs.take 3 = gfL.take 3) (h18 : cs[18]? = some (.int .i64 3)) (hg : Blk w g cs.toArray) (hb : An w b2 234 #[.func (Fn.func 198) #[] #[]]) : cQ 287 #[.slice (sQ g) 2 2, pQ b2] w (Fz N K w) := by
 have HO := sK HC
 unfold f2V Fz at HO
 unfold Fz
 have j0 := sK hb
 have HG := sK hg
 have HL := sK hl
 have HT := sK hcs
 have r1 := sK h18
 clear hb hg hl hcs h18 HC
 go_enter Tryz.func287, Tryz.ntmps287
 go_upto_region 1 with fail
 obtain ⟨W, hW, i0, a0, b0⟩ := mk1 w #[zQ, zQ, eQ, zQ, eQ] 27
 rw [hW]
 clear hW
 have e0 : cs[0]? = some (.int .i64 2) := by have := congrArg (·[0]?) HT.out; simpa [gfL, List.getElem?_take] using this
 have e1 : cs[1]? = some (.int .i64 1) := by have := congrArg (·[1]?) HT.out; simpa [gfL, List.getElem?_take] using this
 have e2 : cs[2]? = some (eQ) := by have := congrArg (·[2]?) HT.out; simpa [gfL, List.getElem?_take] using this
 have HS : Hid (∀ wx, From w wx -> wx.cell? ⟨b2, 0, none⟩ = some (.func (Fn.func 198) #[] #[]) ∧ wx.cell? ⟨g, 0, none⟩ = some (.int .i64 2) ∧ wx.cell? ⟨g, 1, none⟩ = some (.int .i64 1) ∧ wx.cell? ⟨g, 2, none⟩ = some (eQ) ∧ wx.cell? ⟨g, 18, none⟩ = some (.int .i64 3)) := sK fun wx hx => by
  obtain ⟨t, t0⟩ := HG.below hx; refine ⟨by simpa using (j0.from hx).cell 0, ?_, ?_, ?_, ?_⟩
  ·rw [qbj t0 0]; simpa using e0
  ·rw [qbj t0 1]; simpa using e1
  ·rw [qbj t0 2]; simpa using e2
  ·rw [qbj t0 18]; simpa using r1.out
 clear e0 e1 e2
 have HB := sK b0
 have HF := sK a0
 clear b0 a0 i0 HG HT r1 j0
 refine wpL 12 17 [(11, 9, 14)] [.v (.func (Fn.func 198) #[] #[]), .v (.slice (sQ g) 2 2), .v (pQ g), .v (pQ g), .v (.agg #[.int .i64 2, .int .i64 1, eQ]), .v (.slice (sQ g) 2 2), .v (.pointer (some ⟨g, 10, none⟩)), .v (.pointer (some ⟨g, 18, none⟩)), .v (.int .i64 3), .r (Rf W.heap.size N K) Rf.lasting, .r (IsHc W.heap.size N K) IsHc.lasting, .v (zQ)] W (by kernel_rfl) (by kernel_rfl) (by kernel_rfl) (by kernel_rfl) rfl ((From.refl W).drew) (fun x t1 => ?_) (fun _ _ d9 _ _ h => by cases d9 <;> exact h) ?_
 ·simp only [qx, Kq, or_false] at t1
  rcases t1 with rfl
  ·intro a9 o9 v9 wx ho hx hv he
   obtain rfl := Aq ho; obtain ⟨B9, m2, o2, rfl, s2, h9⟩ := (hv : (Rf W.heap.size N K) v9 wx)
   exact ⟨zQ, Or.inl ⟨rfl, fun w9 => by simp only [execOp, he]; rfl⟩, rfl⟩
 simp only [Tk]
 iterate 9 (refine .z (fun wx hx _ hK => by first | (go_simp; exact Kz hK) | (have r0 := (HS wx (Aa hx HF.out)).1; go_simp; exact Kz hK) | (obtain ⟨_, r0, p2, r2, _⟩ := HS wx (Aa hx HF.out); go_simp; exact Kz hK) | (obtain ⟨_, _, _, _, r0⟩ := HS wx (Aa hx HF.out); go_simp; exact Kz hK)) ?_; simp only [Pt])
 refine .r (fun wx hx hd KK hK => ?_) (fun t2 => ?_)
 ·clear hd
  go_simp; refine (HO wx (Aa hx HF.out)).mono ?_; rintro e w' ⟨B', u1, w1, rfl, j2, l2, i2⟩; exact hK.out _ _ ⟨B', u1, w1, rfl, j2, l2.mono hx.size⟩ i2
 simp only [Pt]
 refine .r (fun wx hx hd KK hK => ?_) (fun u2 => ?_)
 ·obtain ⟨z0, v0, g1, rfl, l1, j1⟩ := hd _ (.head _) (by kernel_rfl)
  clear hd; go_simp; exact hK.out _ _ ⟨z0, v0, g1, rfl, l1, j1⟩ (bR)
 simp only [Pt]
 refine .v (fun wx hx hd KK hK => ?_) ?_
 ·obtain ⟨z0, v0, g1, rfl, l1, j1⟩ := hd _ (.tail _ (.head _)) (by kernel_rfl)
  clear hd; go_simp; exact Kz hK
 simp only [Pt]
 refine .nil fun w4 s1 hd => ?_
 obtain ⟨z0, v0, g1, rfl, l1, j1⟩ := hd _ (.tail _ (.head _))
 obtain ⟨a1, w0, i1, rfl, k2, x1⟩ := hd _ (.head _)
 clear hd
 have B1 := HB.below s1
 obtain ⟨d0, d1, d2, d3, d4⟩ := B1.t5
 obtain ⟨f0, f1, f2, f3, f4⟩ := B1.u5
 go_wp2
 have a2 := Aa s1 HF.out
 obtain ⟨Z, hZ, l0, m0, n0⟩ := Ca B1 a2 (qb _) [.int .i64 2, .int .i64 1, .slice w0 0 i1, nQ N, .slice a1 K.length K.length] (by simp)
 simp only [putC] at hZ
 rw [hZ]
 clear hZ
 obtain ⟨q0, q1, q2, q3, q4⟩ := l0.t5
 exact bodyPost_ret (v := .tuple #[.agg #[.int .i64 2, .int .i64 1, .slice w0 0 i1, nQ N, .slice a1 K.length K.length], zQ]) (by simp [results, Tryz.results287, go_sem, q0, q1, q2, q3, q4]) rfl ⟨a1, w0, i1, rfl, k2, (x1.kept n0 HB.lt).mono HF.size, m0⟩
theorem gS (w : WQ) (N : Nat) (K : LQ) (HC : ∀ wx, From w wx -> cQ 198 #[f2V, .int .i64 3] wx (Fz N K wx)) (g b1 b2 : Nat) (cs : VQ) (hl : cs.length = 20) (hcs : cs.take 3 = gfL.take 3) (h18 : cs[18]? = some (.int .i64 3)) (hg : Blk w g cs.toArray) (g0 : An w b1 236 #[.func (Fn.func 287) #[] #[pQ b2]]) (hb2 : An w b2 234 #[.func (Fn.func 198) #[] #[]]) : cQ 289 #[.slice (sQ g) 2 2, pQ b1] w (RetV N K w) := by
 have HO : Hid (∀ wx, From w wx -> cQ 287 #[.slice (sQ g) 2 2, pQ b2] wx (Fz N K wx)) := sK fun wx h => Zl wx N K (fun wy hy => HC wy (Aa hy h)) g b2 cs hl hcs h18 (hg.below h) (hb2.from h)
 unfold Fz at HO
 unfold RetV Py
 have j0 := sK g0
 clear hg g0 hb2 HC
 go_enter Tryz.func289, Tryz.ntmps289
 go_upto_region 1 with fail
 obtain ⟨W, hW, i0, a0, b0⟩ := mk1 w #[zQ, zQ, eQ, zQ, zQ, eQ, zQ, eQ, zQ, eQ] 84
 rw [hW]
 clear hW
 have x0 := (j0.from a0).cell 0
 simp at x0
 have HB := sK b0
 have HF := sK a0
 clear b0 a0 i0
 go_upto_region 2 with (go_at_call 287; refine (HO _ HF.out).mono ?_; rintro e W1 ⟨B, A0, c0, rfl, r0, n1, g0⟩)
 obtain ⟨W2, o0, k1, h0, o1⟩ := mk1 W1 #[.int .i64 2, .int .i64 1, .slice A0 0 c0, nQ N, .slice B K.length K.length] 27
 rw [o0]
 clear o0
 have BF := HB.below (Aa h0 g0)
 have FF := Aa (Aa h0 g0) HF.out
 have n2 := sK ((n1.below h0).mono HF.size)
 have v1 := sK (n1.below h0)
 obtain ⟨y0, y1, y2, y3, y4⟩ := o1.t5
 obtain ⟨b0, b1, b2, b3, b4, b5, b6, b7, b8, b9⟩ := BF.t10
 obtain ⟨f0, f1, f2, f3, f4, f5, f6, f7, f8, f9⟩ := BF.u10
 clear k1 h0 g0 HF HO j0 x0 n1
 go_wp2
 obtain ⟨Z, hZ, l0, m0, n0⟩ := Ca BF FF (qb _) [zQ, zQ, eQ, .int .i64 2, .int .i64 1, .slice A0 0 c0, nQ N, .slice B K.length K.length, zQ, eQ] (by simp)
 simp only [putC] at hZ
 rw [hZ]
 clear hZ
 obtain ⟨q0, q1, q2, q3, q4, q5, q6, q7, q8, q9⟩ := l0.t10
 exact bodyPost_ret (v := .tuple #[.agg #[zQ, zQ, eQ, .int .i64 2, .int .i64 1, .slice A0 0 c0, nQ N, .slice B K.length K.length, zQ, eQ], zQ]) (by simp [results, Tryz.results289, go_sem, q0, q1, q2, q3, q4, q5, q6, q7, q8, q9]) rfl ⟨B, A0, c0, rfl, r0, (v1.kept n0 HB.lt).mono (by have := HB.lt; omega), m0⟩
def cV (A0 : OQ) (c0 N : Nat) (B : OQ) (k cg : Nat) : Value := .agg #[.int .i64 2, .int .i64 1, .slice A0 0 c0, .int .i64 (N : Int), .slice B k cg]
structure CdOk (w : WQ) (c0 N : Nat) (B : OQ) (k cg : Nat) (R : LQ) (P : NQ) : Prop where
 c0m : c0 <= maxLen
 rd : RdM w B k cg R
 rr : Rref F2.fld N R P
 N0 : 0 < N
 N9 : N <= 64
 k0 : 0 < k
 k9 : k <= 256
theorem CdOk.below {w w' : WQ} {c0 N k cg : Nat} {B : OQ} {R : LQ} {P : NQ} (h : CdOk w c0 N B k cg R P) (hb : From w w') : CdOk w' c0 N B k cg R P := ⟨h.c0m, h.rd.below hb, h.rr, h.N0, h.N9, h.k0, h.k9⟩
theorem CdOk.check {w : WQ} {A0 : OQ} {c0 N k cg : Nat} {B : OQ} {R : LQ} {P : NQ} (h : CdOk w c0 N B k cg R P) : cQ 23 #[cV A0 c0 N B k cg] w (Ah (zQ) w) := Fj w F2 Ew A0 c0 (RdN.empty w A0 c0 h.c0m) N k cg B R P h.rd h.rr h.N0 h.N9 h.k9
theorem CdOk.new {w : WQ} {A0 : OQ} {c0 N k cg : Nat} {B : OQ} {R : LQ} {P : NQ} (h : CdOk w c0 N B k cg R P) : cQ 54 #[.agg #[.int .i64 2, .int .i64 1, .slice A0 0 c0]] w (Ga F2 w) := Kv w F2 Ew A0 c0 (RdN.empty w A0 c0 h.c0m)
theorem Rr (w : WQ) (A0 : OQ) (c0 N k cg : Nat) (B : OQ) (R : LQ) (P : NQ) (h : CdOk w c0 N B k cg R P) : cQ 142 #[cV A0 c0 N B k cg] w (Ga F2 w) := by
 have n0 := sK fun (wx : WQ) (hx : From w wx) => (h.below hx).check (A0 := A0)
 have e1 := sK fun (wx : WQ) (hx : From w wx) => (h.below hx).new (A0 := A0)
 unfold Ah at n0
 unfold cV Ga at *
 clear h
 go_enter Tryz.func142, Tryz.ntmps142
 go_upto_region 1 with fail
 obtain ⟨W, hW, h0, a0, b0⟩ := mk1 w #[.int .i64 2, .int .i64 1, .slice A0 0 c0, .int .i64 (N : Int), .slice B k cg] 27
 rw [hW]
 clear hW
 obtain ⟨k0, k1, k2, k3, k4⟩ := b0.t5
 have HB := sK b0
 have HF := sK a0
 clear b0 a0 h0
 go_upto_region 4 with (go_at_call 23; refine (n0 _ HF.out).mono ?_; rintro e w2 ⟨rfl, e0⟩)
 have f0 := sK (Aa e0 HF.out)
 have g0 := HB.below e0
 clear k0 k1 k2 k3 k4 e0
 obtain ⟨d0, d1, d2⟩ := g0.t3
 go_wp2_with (go_at_call 54; refine (e1 _ f0.out).mono ?_; rintro e w3 ⟨bg, rfl, j1, l0, j0⟩)
 go_ret2
 exact ⟨bg, rfl, qs f0.size j1, l0, Aa j0 f0.out⟩
def Ps (I : NQ) (N : Nat) : Prop := (∀ x ∈ I, x < N) ∧ ∀ i, 0 < i -> i < I.length -> I.getD (i - 1) 0 < I.getD i 0
theorem kQ (w : WQ) (A0 : OQ) (c0 N k cg : Nat) (B : OQ) (bs : Nat) (n ci : Nat) (Ai : OQ) (I : NQ) (hI : RdN w Ai n ci I) (hbs : w.cell? ⟨bs, 0, none⟩ = some (.slice Ai n ci)) (hbl : bs < w.heap.size) (hr : Ps I N) : cQ 344 #[cV A0 c0 N B k cg, .slice (sQ bs) 1 1] w (Ah (zQ) w) := by
 have HI := sK hI
 have r0 := sK hI.len
 have v0 := sK hr
 have q1 := hI.cap
 have l1 := hI.max
 unfold maxLen at l1
 unfold cV Ah
 clear hI hr
 go_enter Tryz.func344, Tryz.ntmps344
 go_upto_region 1 with fail
 obtain ⟨W, hW, h0, a0, b0⟩ := mk1 w #[.int .i64 2, .int .i64 1, .slice A0 0 c0, .int .i64 (N : Int), .slice B k cg] 27
 rw [hW]
 clear hW
 obtain ⟨-, -, -, y3⟩ := b0.t4
 have x0 := (a0.cell (p := ⟨bs, 0, none⟩) hbl).trans hbs
 have HF := sK a0
 have HC := sK b0
 clear b0 a0 h0
 go_upto_region 2 with fail
 refine wp_loop_rounds 2 ?_
 rw [rounds_succ]
 go_upto_region 5 with fail
 clear x0
 go_loopw [17] (fun m0 wr => ∃ (i : Nat), i <= n ∧ m0 = .int .i64 (i : Int) ∧ wr = W) (fun m0 _ => n - (intOf m0).toNat)
 case atStart => exact ⟨0, qe _, rfl, rfl⟩
 case round =>
  obtain ⟨i, u1, rfl, rfl⟩ := hrel
  by_cases hi9 : i < n
  ·have t1 : (i : Int) < (n : Int) := by omega
   obtain ⟨bi, oi, rfl, _, i1⟩ := (HI.below HF.out).at hi9; have y1 : I.getD i 0 < N := v0.out.1 _ (Ap (by rw [r0.out]; exact hi9) _)
   rcases Xq i with hi0 | hi0
   ·subst hi0
    rw [qcd] at i1; generalize I.getD 0 0 = x at *; have n1 : decide ((N : Int) <= (x : Int)) = false := by simp; omega
    have m1 : (x : Int) < (N : Int) := by omega
    go_wp2; go_roundw
    case rel => exact ⟨0 + 1, by omega, by go_num, trivial⟩
    case measure => simp [intOf]; omega
   ·obtain ⟨i', rfl⟩ : ∃ i', i = i' + 1 := ⟨i - 1, by omega⟩
    have r1 := (HI.below HF.out).cellAt (k := i') (by omega); have o1 := v0.out.2 (i' + 1) (by omega) (by rw [r0.out]; exact hi9); rw [Nat.add_sub_cancel] at o1; generalize I.getD (i' + 1) 0 = x at *; generalize I.getD i' 0 = y at *; have n1 : decide ((N : Int) <= (x : Int)) = false := by simp; omega
    have m1 : (x : Int) < (N : Int) := by omega
    have z1 : decide ((x : Int) <= (y : Int)) = false := by simp; omega
    have a2 : (y : Int) < (x : Int) := by omega
    have s1 : ((i' + 1 : Nat) : Int) - 1 = (i' : Int) := by omega
    have x1 : (0 : Int) < ((i' + 1 : Nat) : Int) := by omega
    go_wp2; go_roundw
    case rel => exact ⟨i' + 1 + 1, by omega, by go_num, trivial⟩
    case measure => simp [intOf]; omega
  ·obtain rfl : i = n := by omega
   go_wp2; rw [rounds_succ]; go_wp2; go_ret; exact ⟨rfl, HF.out⟩
theorem lU (w : WQ) (A0 : OQ) (c0 N k cg : Nat) (B : OQ) (R : LQ) (P : NQ) (h : CdOk w c0 N B k cg R P) (n ci : Nat) (Ai : OQ) (I : NQ) (hI : RdN w Ai n ci I) (hr : Ps I N) (hn9 : n <= 256) : cQ 264 #[cV A0 c0 N B k cg, .slice Ai n ci] w (Ah (.tuple #[.int .i64 ((grd F2 R I n).2.length : Int), zQ]) w) := by
 have t0 := sK fun (wx : WQ) (hx : From w wx) => Rr wx A0 c0 N k cg B R P (h.below hx)
 have f1 := sK fun (wx : WQ) (hx : From w wx) (bs : Nat) (h1 : wx.cell? ⟨bs, 0, none⟩ = some (.slice Ai n ci)) (h2 : bs < wx.heap.size) => kQ wx A0 c0 N k cg B bs n ci Ai I (hI.below hx) h1 h2 hr
 have q0 := sK fun (wx : WQ) (hx : From w wx) (bg : Nat) (hg : GFat wx bg F2) => Oz wx bg F2 hg 2 1 A0 0 c0 N B k cg R (h.rd.below hx) h.rr.mat h.k0 h.k9 Ai n ci I (hI.below hx) hr.1 hn9 (by have := h.N9; omega)
 unfold Ga at t0
 unfold RetN at q0
 unfold Ah cV at *
 clear h hI hr
 generalize (grd F2 R I n).2 = G at *
 go_enter Tryz.func264, Tryz.ntmps264
 go_upto_region 1 with fail
 obtain ⟨W, hW, h0, a0, b0⟩ := mk1 w #[.int .i64 2, .int .i64 1, .slice A0 0 c0, .int .i64 (N : Int), .slice B k cg] 27
 rw [hW]
 clear hW
 obtain ⟨k0, k1, k2, k3, k4⟩ := b0.t5
 have HB := sK b0
 have HF := sK a0
 clear b0 a0 h0
 go_upto_region 3 with (go_at_call 142; refine (t0 _ HF.out).mono ?_; rintro e w2 ⟨bg, rfl, _, l0, e0⟩)
 have f0 := sK (Aa e0 HF.out)
 have b1 := sK l0
 have g0 := HB.below e0
 have a1 := sK g0
 clear k0 k1 k2 k3 k4 e0 l0
 obtain ⟨k0, k1, k2, k3, k4⟩ := g0.t5
 clear g0
 have y0 := sK (f1 _ (Aa (Ac w2 (.cells #[.slice Ai n ci] 22)) f0.out) w2.heap.size (by simpa using (Blk.new w2 #[.slice Ai n ci] 22).c0) (by simp))
 go_upto_region 6 with (go_at_call 344; refine y0.mono ?_; rintro e w3 ⟨rfl, j0⟩)
 have i0 := Aa j0 (Ac w2 (.cells #[.slice Ai n ci] 22))
 have o0 := sK (Aa i0 f0.out)
 have c1 := sK (q0 w3 o0 bg (b1.below i0))
 have z0 := a1.below i0
 clear k0 k1 k2 k3 k4 j0 i0 y0
 obtain ⟨k0, k1, k2, k3, k4⟩ := z0.t5
 clear z0
 go_wp2_with (go_at_call 143; refine c1.mono ?_; rintro e w4 ⟨A9, c9, rfl, w1, g1⟩)
 go_ret2
 exact ⟨rfl, Aa g1 o0.out⟩
theorem qX (w : WQ) (A0 : OQ) (c0 N k cg : Nat) (B : OQ) (R : LQ) (P : NQ) (h : CdOk w c0 N B k cg R P) (ci : Nat) (Ai : OQ) (I : NQ) (hI : RdN w Ai k ci I) (hr : Ps I N) (hk : (grd F2 R I k).2.length = k) : cQ 145 #[cV A0 c0 N B k cg, .slice Ai k ci] w (Ah (.tuple #[.bool true, zQ]) w) := by
 have w0 := sK fun (wx : WQ) (hx : From w wx) => lU wx A0 c0 N k cg B R P (h.below hx) k ci Ai I (hI.below hx) hr h.k9
 rw [hk] at w0
 unfold Ah cV at *
 clear h hI hr hk
 go_enter Tryz.func145, Tryz.ntmps145
 go_upto_region 1 with fail
 obtain ⟨W, hW, h0, a0, b0⟩ := mk1 w #[.int .i64 2, .int .i64 1, .slice A0 0 c0, .int .i64 (N : Int), .slice B k cg] 27
 rw [hW]
 clear hW
 obtain ⟨k0, k1, k2, k3, k4⟩ := b0.t5
 have HB := sK b0
 have HF := sK a0
 clear b0 a0 h0
 go_upto_region 2 with (go_at_call 264; refine (w0 _ HF.out).mono ?_; rintro e w2 ⟨rfl, e0⟩)
 have f0 := sK (Aa e0 HF.out)
 have g0 := HB.below e0
 clear k0 k1 k2 k3 k4 e0
 obtain ⟨-, -, -, -, k4⟩ := g0.t5
 have v1 : ((k : Int) == (k : Int)) = true := by simp
 clear g0
 go_wp2
 go_ret2
 exact ⟨rfl, f0.out⟩
structure Bo (w : WQ) (B : Nat) (X : Nat -> Prop) (A : OQ) (n c : Nat) (R : LQ) : Prop where
 rx : Cc w X A n c R
 lo : ∀ b, (Value.slice A n c).ownBlock = some b -> B <= b
section
variable {w w' : WQ} {B n c : Nat} {X : Nat -> Prop} {A : OQ} {R : LQ}
theorem Bo.nil (w : WQ) (B : Nat) (X : Nat -> Prop) : Bo w B X none 0 0 [] := ⟨Cc.nil w X, fun b h => by simp [Value.ownBlock] at h⟩
theorem Bo.below (h : Bo w B X A n c R) (hb : From w w') : Bo w' B X A n c R := ⟨h.rx.below hb, h.lo⟩
theorem Bo.grown (h : Bo w B X A n c R) {r : Option Nat} (hg : w.grownBy w' r) (hr : ∀ b, r = some b -> X b) : Bo w' B X A n c R := ⟨h.rx.grown hg hr, h.lo⟩
theorem Bo.less (h : Bo w B X A n c R) {Y : Nat -> Prop} (hY : ∀ b, Y b -> X b ∨ w.heap.size <= b) : Bo w B Y A n c R := ⟨h.rx.less hY, h.lo⟩
theorem Bo.rd (h : Bo w B X A n c R) : RdM w A n c R := h.rx.rd
theorem Bo.own (h : Bo w B X A n c R) : ∀ b, (Value.slice A n c).ownBlock = some b -> ¬ X b ∧ b < w.heap.size := fun b e => by
 obtain ⟨vs, h1, h2, _⟩ := h.rx.own
 exact ⟨h2 b e, h.rx.lt e⟩
theorem Bo.made {g a0 : Nat} (h : w.ownsRow 0 22 1 (.slice (sQ g) 0 a0) 0 []) (hB : B <= g) (hX : ¬ X g) : Bo w B X (sQ g) 0 a0 [] := by
 have ho : (Value.slice (sQ g) 0 a0).ownBlock = some g := rfl
 exact ⟨⟨rfl, [], h, fun b e => by rw [ho] at e; injection e with e; subst e; exact hX, fun i hi => absurd hi (by omega)⟩, fun b e => by rw [ho] at e; injection e with e; omega⟩
end
section
variable {P : Program} {w : WQ} {ops : Array Oper} {rest : List Oper} {o : Oper} {a : Act} {Q : Exit -> Act -> WQ -> Prop}
theorem Br (hgd : o.guard = none) (s x : Operand) (t : TypeId)
  (ho : o.op = .call { callee := .builtin .append, args := #[s, x], argTypes := #[t, t] }) (i : TypeInfo) (ht : P.underlying t = some (.slice 22)) (hi : P.info? 22 = some i) (hz : i.zero = some (eQ)) (hsize : i.size = 1) (hby : i.bytes = 24)
  (B : Nat) (X : Nat -> Prop) (A : OQ) (n c : Nat) (R : LQ) (hs : a.eval s = .slice A n c) (hown : Bo w B X A n c R)
  (b : Nat) (hx : a.eval x = .slice (sQ b) 1 1) (Ai : OQ) (ci : Nat) (l : NQ) (hc : w.cell? ⟨b, 0, none⟩ = some (.slice Ai l.length ci)) (hr : RdN w Ai l.length ci l)
  (hap : ∀ b off, Ai = some ⟨b, off, none⟩ -> 0 < l.length -> (Value.slice A n c).ownBlock ≠ some b ∧ ¬ X b) (hn : n <= 1000000) (hXl : ∀ b, X b -> b < w.heap.size) (hB : B <= w.heap.size)
  (h : ∀ A' c' w', Bo w' B X A' (n + 1) c' (R ++ [l]) -> w.grownBy w' (Value.slice A n c).ownBlock -> (∀ b, (Value.slice A n c).ownBlock = some b -> ¬ X b ∧ B <= b ∧ b < w.heap.size) -> (∀ w0, w0.heap.size <= B -> From w0 w -> From w0 w') -> wpList P ops Q rest (a.put o.dst (.slice A' (n + 1) c')) w') :
  wpList P ops Q (o :: rest) a w := by
 obtain ⟨vs, h1, h2, h3⟩ := hown.rx.own
 refine wpList_append_lies w hgd s x t ho 0 22 i (eQ) 1 24 ht hi hz hsize hby rfl (by omega) _ n vs hs h1 ⟨b, 0, none⟩ 1 1 [.slice Ai l.length ci] hx rfl (fun j u hj => ?_) (by simp [Value.oneCell']) (by omega) (by unfold maxLen; omega) (by omega) (qe _) _ rfl ?_
 ·cases j with
  | zero =>
   have : u = .slice Ai l.length ci := by simpa using hj.symm
   rw [this, <- hc]; rfl
  | succ j => simp at hj
 ·intro g a0 w' h4 h5 h6 h7
  refine h (sQ g) a0 w' ⟨Cc.snoc hown.rx.len h1 h2 h3 hr hap hXl h4 h5 h6, fun b' e => ?_⟩ h5 (fun b' e => ⟨h2 b' e, hown.lo b' e, hown.rx.lt e⟩) (fun w0 h0 hF => ?_)
  ·have e3 : g = b' := by simpa [Value.ownBlock] using e
   rcases h6 with h6 | h6
   ·exact hown.lo b' (by rw [h6, e3])
   ·omega
  ·exact qac hF h5 hF.size (fun k hk => by have := hown.lo k hk; omega)
end
section
variable {P : Program} {w : WQ} {ops : Array Oper} {o : Oper} {a : Act} {K : Act -> WQ -> Prop} {Q : Exit -> Act -> WQ -> Prop} {E : Prop}
theorem Mw (hgd : o.guard = none) (s x : Operand) (t : TypeId)
  (ho : o.op = .call { callee := .builtin .append, args := #[s, x], argTypes := #[t, t] }) (i : TypeInfo) (ht : P.underlying t = some (.slice 22)) (hi : P.info? 22 = some i) (hz : i.zero = some (eQ)) (hsize : i.size = 1) (hby : i.bytes = 24)
  (B : Nat) (X : Nat -> Prop) (A : OQ) (n c : Nat) (R : LQ) (hs : a.eval s = .slice A n c) (hown : Bo w B X A n c R)
  (b : Nat) (hx : a.eval x = .slice (sQ b) 1 1) (Ai : OQ) (ci : Nat) (l : NQ) (hc : w.cell? ⟨b, 0, none⟩ = some (.slice Ai l.length ci)) (hr : RdN w Ai l.length ci l)
  (hap : ∀ b off, Ai = some ⟨b, off, none⟩ -> 0 < l.length -> (Value.slice A n c).ownBlock ≠ some b ∧ ¬ X b) (hn : n <= 1000000) (hXl : ∀ b, X b -> b < w.heap.size) (hB : B <= w.heap.size)
  (h : ∀ A' c' w', Bo w' B X A' (n + 1) c' (R ++ [l]) -> w.grownBy w' (Value.slice A n c).ownBlock -> (∀ b, (Value.slice A n c).ownBlock = some b -> ¬ X b ∧ B <= b ∧ b < w.heap.size) -> (∀ w0, w0.heap.size <= B -> From w0 w -> From w0 w') -> K (a.put o.dst (.slice A' (n + 1) c')) w') :
  if Region.wanted o (yielded ops a.tmps) = true then Oper.wp P o a w K Q else E := by
 obtain ⟨vs, h1, h2, h3⟩ := hown.rx.own
 refine step_append_lies w hgd s x t ho 0 22 i (eQ) 1 24 ht hi hz hsize hby rfl (by omega) _ n vs hs h1 ⟨b, 0, none⟩ 1 1 [.slice Ai l.length ci] hx rfl (fun j u hj => ?_) (by simp [Value.oneCell']) (by omega) (by unfold maxLen; omega) (by omega) (qe _) _ rfl ?_
 ·cases j with
  | zero =>
   have : u = .slice Ai l.length ci := by simpa using hj.symm
   rw [this, <- hc]; rfl
  | succ j => simp at hj
 ·intro g a0 w' h4 h5 h6 h7
  refine h (sQ g) a0 w' ⟨Cc.snoc hown.rx.len h1 h2 h3 hr hap hXl h4 h5 h6, fun b' e => ?_⟩ h5 (fun b' e => ⟨h2 b' e, hown.lo b' e, hown.rx.lt e⟩) (fun w0 h0 hF => ?_)
  ·have e3 : g = b' := by simpa [Value.ownBlock] using e
   rcases h6 with h6 | h6
   ·exact hown.lo b' (by rw [h6, e3])
   ·omega
  ·exact qac hF h5 hF.size (fun k hk => by have := hown.lo k hk; omega)
end
def Jg (n k : Nat) : NQ := (List.replicate n 0).set k 1
def Gz (n : Nat) : LQ := (List.range n).map (Jg n)
theorem nP (w : WQ) (n : Nat) (hn0 : 0 < n) (hn : n <= 1000) : cQ 265 #[nQ n] w (RetG n (Gz n) w) := by
 obtain ⟨i1, hj, g1, h1, j1⟩ := info_parts Eg
 obtain ⟨i0, hi, k1, l1, m1⟩ := info_parts Bj
 go_enter Tryz.func265, Tryz.ntmps265
 go_wp2_with (at_make; refine Ds rfl _ _ _ 22 rfl i1 (eQ) 24 Tryz.underlying25 hj g1 h1 j1 rfl _ _ n rfl rfl (by omega) (by omega) ?_; intro w1 r0 l0 c1)
 have j0 : Az w1 w.heap.size w.heap.size n n (List.replicate n (eQ)) (List.replicate n []) := by
  refine ⟨⟨r0, by simp, fun i hi => ⟨0, ?_⟩, fun i hi b hb => ?_⟩, fun r hr => by rw [(qav.1 hr).2]; exact Sm.nil⟩
  ·rw [Bu]
   have e1 : (List.replicate n (Value.slice none 0 0)).getD i undef = eQ := by simp [qa, hi]
   have e2 : (List.replicate n ([] : NQ)).getD i [] = [] := by simp [qa, hi]
   rw [e1, e2]; exact Rq _ _ _ _
  ·have e1 : (List.replicate n (Value.slice none 0 0)).getD i undef = eQ := by simp [qa, hi]
   rw [e1] at hb; cases hb
 have q0 : w.heap.size < w1.heap.size := by omega
 clear r0 c1
 go_loopw [9] (fun kv wr => ∃ (k : Nat) (vs : VQ), k <= n ∧ kv = nQ k ∧ Az wr w.heap.size w.heap.size n n vs ((List.range k).map (Jg n) ++ List.replicate (n - k) []) ∧ Below w.heap.size w wr ∧ w.heap.size < wr.heap.size) (fun kv _ => n - (intOf kv).toNat)
 case atStart => exact ⟨0, _, qe _, rfl, by simpa using j0, l0, q0⟩
 case round =>
  clear j0 l0 q0; obtain ⟨k, vs, hk, rfl, hG, hb, o0⟩ := hrel
  by_cases hkn : k < n
  ·have q1 : (k : Int) < (n : Int) := by omega
   have t0 := Fd ([] : NQ) (pre := (List.range k).map (Jg n)) (n := n) (k := k) (by simp) hkn (Jg n k); have z0 := sK t0; have HG := sK hG; have HB := sK hb; have v0 := hG.grid.slot hkn; have n0 := hG.slotFree k; have o1 := hG.head.2.1; clear t0 hG hb; go_upto_region 6 with (at_make; refine Bd rfl _ _ _ rfl i0 Tryz.underlying22 hi k1 l1 m1 _ _ n rfl rfl (by omega) ?_; intro w2 d0 c0 d1; have f1 := (c0.cell (p := ⟨w.heap.size, k, none⟩) o0).trans v0; have b1 := (c0.frozen (p := ⟨w.heap.size, k, none⟩) o0).trans n0; clear v0 n0)
   obtain ⟨b2, m0⟩ := xQ wr.heap.size; rw [<- m0] at d0 ⊢; have b0 := (HG.below c0).put hkn (d0.mono (by omega)) ⟨by omega, fun j hj _ e => by have := HG.blkLt hj e; omega⟩; have a0 := d0.kept (Ad w2 w.heap.size k (.slice (sQ b2) n n)) (fun g e e2 => by simp at e e2; omega); obtain ⟨w3, e0⟩ := xQ (w2.setCell ⟨w.heap.size, k, none⟩ (.slice (sQ b2) n n)); have h0 : Below w.heap.size w w3 := by rw [e0]; exact (HB.trans (c0.mono HB.size)).setCell (p := ⟨w.heap.size, k, none⟩) (qb _) _
   have r1 : w.heap.size < w3.heap.size := by rw [e0]; simp [World.setCell]; omega
   rw [<- e0] at b0 a0 ⊢; have a1 := b0.grid.slot hkn; have g0 : (vs.set k (.slice (sQ b2) n n)).getD k undef = .slice (sQ b2) n n := Cm _ _ _ (by rw [HG.grid.lenV]; exact hkn); rw [g0] at a1; have hz := a0.cell hkn; have s1 := a0.free k; have w0 : (List.replicate n 0).getD k 0 = 0 := by simp [qa, hkn]
   rw [w0] at hz; have f0 := b0.fill (w' := w3.setCell ⟨b2, k, none⟩ (.int .i64 ((1 : Nat) : Int))) hkn g0 (Ad w3 b2 k _) ((a0.set k (x := 1) (by omega)).mono (by omega)); rw [List.set_set] at f0; have y0 := sK f0; have x0 := sK h0; have n1 : w.heap.size < b2 := by omega
   clear e0 f1 b1 d0 b0 a0 f0 h0 g0 w0 m0 d1; go_wp2; go_roundw
   case rel =>
    refine ⟨k + 1, vs.set k (.slice (sQ b2) n n), by omega, by go_num, ?_, x0.setCell (p := ⟨b2, k, none⟩) (by show _ <= b2; omega) _, by simp [World.setCell]; omega⟩; rw [qaj, qam]; have h9 := y0.out; rw [show (List.replicate n 0).set k 1 = Jg n k from rfl, z0.out] at h9; exact h9
   case measure => simp [intOf]; omega
  ·obtain rfl : k = n := by omega
   rw [qaa, qao, qas] at hG; go_wp2; go_ret; exact ⟨vs, rfl, hG, hb⟩
def vecA (F : FD) (v : NQ) (R : LQ) (cols : Nat) : Nat -> NQ
 | 0 => List.replicate cols 0
 | i + 1 => if v.getD i 0 = 0 then vecA F v R cols i else addRow F.fld (vecA F v R cols i) (v.getD i 0) (R.getD i [])
theorem Tj {F : FD} (hF : F.Ok) {v : NQ} {R : LQ} {cols n : Nat} (hv : Els F v) (hM : Mat F.fld cols R) (hR : R.length = n) : ∀ i, i <= n -> (vecA F v R cols i).length = cols ∧ Els F (vecA F v R cols i)
 | 0, _ => ⟨by simp [vecA], fun x hx => by rw [(qav.1 hx).2]; exact qk (by omega) hF.q2⟩
 | i + 1, hi => by
  obtain ⟨h1, h2⟩ := Tj hF hv hM hR i (by omega); unfold vecA; split
  ·exact ⟨h1, h2⟩
  ·exact ⟨Bv h1 (hM.len (by omega)), Yy hF.fldOk (hv.at hF i) h2 (hM.rowLt (by omega))⟩
theorem oN (w : WQ) (b : Nat) (F : FD) (hG : GFat w b F) (Av : OQ) (n cv : Nat) (v : NQ) (hv : RdN w Av n cv v) (hve : Els F v) (B : OQ) (cg : Nat) (R : LQ) (hR : RdM w B n cg R) (cols : Nat) (hM : Mat F.fld cols R) (hc0 : 0 < cols) (hc9 : cols <= 1000) :
  cQ 266 #[pQ b, .slice Av n cv, .slice B n cg, nQ cols] w (RetC cols (vecA F v R cols n) w) := by
 obtain ⟨i0, hi, m1, n1, o1⟩ := info_parts Bj
 have v0 := hG.ok
 have t1 := hR.le63
 have r1 := hv.cap
 have f1 := hv.max
 unfold maxLen at f1
 have HG := sK hG
 have HV := sK hv
 have HR := sK hR
 have HA : Hid (∀ i, i <= n -> (vecA F v R cols i).length = cols ∧ Els F (vecA F v R cols i)) := sK (Tj v0 hve hM hR.len)
 have c1 := sK hR.len
 clear hG hv hR
 go_enter Tryz.func266, Tryz.ntmps266
 go_upto_region 3 with (at_make; refine Bd rfl _ _ _ rfl i0 Tryz.underlying22 hi m1 n1 o1 _ _ cols rfl rfl (by omega) ?_; intro w1 a0 m0 k1)
 have z0 := sK m0
 clear k1 m0
 obtain ⟨bo, c0⟩ := xQ w.heap.size
 have l0 := sK c0
 rw [<- c0]
 have w0 : OwnN w1 w.heap.size (sQ bo) cols cols (List.replicate cols 0) := by rw [c0]; exact a0
 clear a0 c0
 go_loopw [16] (fun h0 wr => ∃ i, i <= n ∧ h0 = nQ i ∧ OwnN wr w.heap.size (sQ bo) cols cols (vecA F v R cols i) ∧ From w wr) (fun h0 _ => n - (intOf h0).toNat)
 case atStart => exact ⟨0, qe _, rfl, w0, z0.out⟩
 case round =>
  clear w0; obtain ⟨i, i1, rfl, a0, hF⟩ := hrel
  by_cases hi9 : i < n
  ·have s1 : (i : Int) < (n : Int) := by omega
   obtain ⟨bv, ov, rfl, _, g1⟩ := (HV.below hF).at hi9; have y0 : v.getD i 0 < F.q := hve.at v0 i; have x0 : vecA F v R cols (i + 1) = if v.getD i 0 = 0 then vecA F v R cols i else addRow F.fld (vecA F v R cols i) (v.getD i 0) (R.getD i []) := rfl; have g0 := sK x0; obtain ⟨x, hx⟩ := xQ (v.getD i 0); rw [<- hx] at g1 y0 g0; have b0 := sK a0; have HF := sK hF; clear x0 hx a0 hF
   by_cases hx0 : x = 0
   ·have l1 : ((x : Int) != 0) = false := by simp [hx0]
    have f0 : Hid (vecA F v R cols (i + 1) = vecA F v R cols i) := sK (by rw [g0.out, if_pos hx0]); clear hx0; go_wp2; go_roundw
    case rel => exact ⟨i + 1, by omega, by go_num, by rw [f0.out]; exact b0.out, HF.out⟩
    case measure => simp [intOf]; omega
   ·have l1 : ((x : Int) != 0) = true := by simp; exact hx0
    have f0 : Hid (vecA F v R cols (i + 1) = addRow F.fld (vecA F v R cols i) x (R.getD i [])) := sK (by rw [g0.out, if_neg hx0]); obtain ⟨bg, og, Ai, ci, rfl, d1, n0, e0⟩ := HR.at hi9; have e1 := (HF.cell (p := ⟨bg, og + i, none⟩) d1).trans n0; have d0 := e0.below HF.out; have q0 : i < R.length := by rw [c1.out]; exact hi9
    have r0 : (R.getD i []).length = cols := hM.len q0; rw [r0] at e1 d0 e0; obtain ⟨bu, ou, rfl, _⟩ := d0.at hc0; have q1 : bu < w.heap.size := by
     obtain ⟨b9, o9, e9, h9, _⟩ := e0.cells hc0; simp only [qc, qd, and_true] at e9; omega
    have j1 : bu ≠ bo := by have := l0.out; omega
    have j0 := sK (lN w wr b F HG HF w.heap.size bo cols cols (qb _) _ b0 (HA i i1).2 x y0 bu ou ci _ d0 (hM.rowLt q0) j1 hc9); unfold iv at j0; clear n0 e0 d0 r0 hx0; go_wp2_with (go_at_call 180; refine j0.mono ?_; rintro e w2 ⟨⟨v9, rfl⟩, t0, o0⟩); have b1 := sK t0; have a1 := sK (qac HF o0 HF.size (fun k hk => by simp at hk; have := l0.out; omega)); clear t0 o0; go_roundw
    case rel => exact ⟨i + 1, by omega, by go_num, by rw [f0.out]; exact b1.out, a1.out⟩
    case measure => simp [intOf]; omega
  ·obtain rfl : i = n := by omega
   have b0 := sK a0; have HF := sK hF; clear a0 hF; go_wp2; go_ret; exact ⟨_, _, rfl, b0.rd, fun _ => b0.out, HF.out⟩
end Go.Proofs.YtoalkldfhkabnaaGreatDoor
