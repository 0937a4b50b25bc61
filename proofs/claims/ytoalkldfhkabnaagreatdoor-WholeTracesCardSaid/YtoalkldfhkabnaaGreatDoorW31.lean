/- Part of WholeTraces. -/
import Derived.Recover
import Derived.Shelf.Strings.BuilderK
import Derived.Shelf.Strconv.Itoa3
import Derived.Shelf.Sort.Plain
import Derived.Shelf.Bits.Mul64
import Derived.Ground.Names2Prog
import Derived.Test.YtoalkldfhkabnaaGreatDoorChecked
import Derived.Test.YtoalkldfhkabnaaGreatDoorW00
import Derived.Test.YtoalkldfhkabnaaGreatDoorW10
import Derived.Test.YtoalkldfhkabnaaGreatDoorW30
set_option linter.all false
set_option maxRecDepth 10000
set_option maxHeartbeats 16000000
namespace Go.Proofs.YtoalkldfhkabnaaGreatDoor
open Go.RowKit Fq
theorem Zm (a b : OQ) (w : WQ) : CallsD Tryz.prog 36 #[.pointer a, .pointer b] .returning w fun e u' w' => e = .returned (.tuple #[]) ∧ u' = .returning ∧ w' = w := by
 refine callsD_of_wpS Tryz.func36 rfl fun c₀ cs hu => ?_
 apply wpS_seq
 apply wpS_region
 simp [wpOpsS, go_sem, recoverD, hu, Tryz.ntmps36, Exit.thenS]
 rw [show (#[Value.pointer a, Value.pointer b] ++ (Array.replicate 19 undef).setIfInBounds 5 Value.nilIface) = #[Value.pointer a, Value.pointer b, undef, undef, undef, undef, undef, Value.nilIface, undef, undef, undef, undef, undef, undef, undef, undef, undef, undef, undef, undef, undef] from by simp [Array.replicate, List.replicate, Array.setIfInBounds]]
 refine wpS_of_wp (Code.wp_mono (Q := fun e a' w' => e = .normal ∧ a'.defers = [] ∧ w' = w) ?_ ?_)
 ·rintro e a' w' ⟨rfl, hd, rfl⟩
  cases c₀
  simp_all [bodyPostS, results, Tryz.results36]
 ·go_wp2
structure HamE (w : WQ) (base g0 c0 g1 c1 : Nat) : Prop where
 top : w.ownsRow base 40 5 (.slice (sQ g0) 2 c0) 2 (gfV g1 c1 ++ num3)
 sub : w.ownsRow base 40 5 (.slice (sQ g1) 1 c1) 1 num2
abbrev hamV (g0 c0 : Nat) : Value := .agg #[.int .i64 3, .string bHam, zQ, eQ, .slice (sQ g0) 2 c0]
def Mo (w : WQ) (e : Ending) (w' : WQ) : Prop := ∃ g0 c0 g1 c1, e = .returned (.tuple #[hamV g0 c0, zQ, zQ]) ∧ HamE w' w.heap.size g0 c0 g1 c1 ∧ From w w'
theorem rN {w : WQ} {B g c p : Nat} (hO : OwnT w B (sQ g) 9 c T0) (hb : Blk w p #[.slice (sQ g) 9 c, zQ, .int .i64 17, zQ]) (hne : p ≠ g) : PS w p g c 0 0 := by
 have hl := hO.lt g rfl
 rcases Ce hO with ⟨_, h2, _⟩ | ⟨b', c', h1, _, _, h3, h4⟩
 ·omega
 ·simp only [qm] at h1
  obtain ⟨_, _, rfl⟩ := h1; refine ⟨hb, fun j hj => ?_, hl.2, hne, h3, h4⟩
  rcases (by omega : j = 0 ∨ j = 1 ∨ j = 2 ∨ j = 3 ∨ j = 4 ∨ j = 5 ∨ j = 6 ∨ j = 7 ∨ j = 8) with rfl | rfl | rfl | rfl | rfl | rfl | rfl | rfl | rfl <;> exact ⟨hO.cellAt _ (by decide), hO.cellAt _ (by decide), hO.cellAt _ (by decide), hO.cellAt _ (by decide)⟩
theorem eC (w : WQ) : cQ 15 #[.string s0] w (Mo w) := by
 have a3 := sK iG
 have c3 : Hid (s0.size = 17) := sK rfl
 have w1 := sK iH
 unfold dG at w1
 unfold Mo
 generalize s0 = s at *
 have p3 := c3.out
 go_enter_defers Tryz.func15, Tryz.ntmps15
 go_upto_region 2 with fail
 obtain ⟨W, hW, l3, n2, b0, b1, b2⟩ := mk3 w #[zQ, .string { data := #[] }, zQ, eQ, eQ] 40 #[zQ] 29 #[zQ] 3
 rw [hW]
 clear hW
 have e1 := sK b0
 have i1 := sK b1
 have l1 := sK b2
 have d3 := sK n2
 have w3 : w.heap.size + 1 + 1 < W.heap.size := by omega
 clear b0 b1 b2 n2 l3
 go_upto_region 3 with (go_at_call 37; refine (a3 W).mono ?_; rintro e w2 ⟨g, c, rfl, z0, x0⟩)
 obtain ⟨W3, l2, j3, a1, i2⟩ := mk1 w2 #[.slice (sQ g) 9 c, zQ, .int .i64 17, zQ] 73
 rw [l2]
 clear l2
 have m3 := (z0.lt g rfl).2
 have hP : PS W3 w2.heap.size g c 0 0 := rN (Ag z0 a1 (qb _)) i2 (by omega)
 have HP := sK hP
 have l0 := sK (Aa a1 x0)
 have t3 : W.heap.size <= w2.heap.size := x0.size
 clear hP z0 x0 a1 j3 i2 m3
 generalize w2.heap.size = p at *
 go_upto_region 4 with (go_at_call 38; refine (w1 W3 p g c HP.out).mono ?_; rintro e w4 ⟨g0, c0, g1, c1, rfl, k2, j0, p2, t2⟩)
 obtain ⟨W5, m2, k3, d0, e3⟩ := mk1 w4 #[.int .i64 3, .string bHam, zQ, eQ, .slice (sQ g0) 2 c0] 40
 rw [m2]
 clear m2
 have x2 := sK (k2.below d0)
 have a2 := sK (Ag p2 d0 (qb _))
 have e2 := sK (Ag t2 d0 (qb _))
 have f1 := sK (((e1.below l0.out).kept j0 (by simp; omega)).below d0)
 have j1 := sK (((i1.below l0.out).kept j0 (by simp; omega)).below d0)
 have m1 := sK (((l1.below l0.out).kept j0 (by simp; omega)).below d0)
 have q3 := l0.size
 have x1 := sK ((l0.grown j0 l0.size (fun k hk => by injection hk with hk; omega)).trans (qf d0 (by have := j0.size; omega)))
 have o1 := sK e3
 have s3 := j0.size
 clear k2 j0 p2 t2 d0 k3 HP e1 i1 l1
 obtain ⟨m0, w0, f3, g3, _, _⟩ := x2.cells
 go_quiet (fail)
 obtain ⟨W6, d1⟩ := xQ (W5.drewN nq)
 have f0 : From W5 W6 := by rw [d1]; exact Ae (bR) _
 rw [<- d1]
 have v2 := sK (Aa f0 x1.out)
 have i0 := sK (f1.below f0)
 have o0 := sK (j1.below f0)
 have q0 := sK (m1.below f0)
 have o2 := o1.below f0
 have c2 := sK (Ag a2 f0 (qb _))
 have f2 := sK (Ag e2 f0 (qb _))
 obtain ⟨h0, h1, h2, h3, h4⟩ := o2.t5
 obtain ⟨r0, r1, r2, r3, r4⟩ := i0.t5
 have e0 := o0.t1
 have a0 := q0.t1
 have u0 := i0.free 0
 have u1 := i0.free 1
 have u2 := i0.free 2
 have u3 := i0.free 3
 have u4 := i0.free 4
 have v0 := o0.free 0
 have v1 := q0.free 0
 have v3 : w.heap.size + 1 + 1 < w4.heap.size := by omega
 clear d1 f0 m0 w0 f3 g3 f1 j1 m1 o1 a2 e2 x1 o2
 go_wp2
 have t0 := ((((i0.set 0 (.int .i64 3)).set 1 (.string bHam)).set 2 (zQ)).set 3 (eQ)).set 4 (.slice (sQ g0) 2 c0)
 simp only [qj, qo, qp] at t0
 obtain ⟨Z, hZ⟩ := xQ (((((W6.setCell ⟨w.heap.size, 0, none⟩ (.int .i64 3)).setCell ⟨w.heap.size, 1, none⟩ (.string bHam)).setCell ⟨w.heap.size, 2, none⟩ (zQ)).setCell ⟨w.heap.size, 3, none⟩ (eQ)).setCell ⟨w.heap.size, 4, none⟩ (.slice (sQ g0) 2 c0))
 have n0 : W6.grownBy Z (some w.heap.size) := by
  rw [hZ]; exact (((((Ad _ w.heap.size 0 _).trans (Ad _ w.heap.size 1 _)).trans (Ad _ w.heap.size 2 _)).trans (Ad _ w.heap.size 3 _)).trans (Ad _ w.heap.size 4 _))
 have i3 : From w Z := by
  rw [hZ]; exact (((((d3.trans (qf v2 (by omega))).setCell (p := ⟨w.heap.size, 0, none⟩) (qb _) _).setCell (p := ⟨w.heap.size, 1, none⟩) (qb _) _).setCell (p := ⟨w.heap.size, 2, none⟩) (qb _) _).setCell (p := ⟨w.heap.size, 3, none⟩) (qb _) _).setCell (p := ⟨w.heap.size, 4, none⟩) (qb _) _
 rw [<- hZ] at t0 ⊢
 clear hZ
 have s1 := Ad Z (w.heap.size + 1) 0 (zQ)
 have s2 := Ad (Z.setCell ⟨w.heap.size + 1, 0, none⟩ (zQ)) (w.heap.size + 1 + 1) 0 (zQ)
 have q1 := (t0.kept s1 (by simp)).kept s2 (by simp <;> omega)
 have k1 := (((o0.kept n0 (by simp)).set 0 (zQ)).kept s2 (by simp))
 have n1 := (((q0.kept n0 (by simp <;> omega)).kept s1 (by simp)).set 0 (zQ))
 have n3 : W3.heap.size <= g0 := (c2.lt g0 rfl).1
 have o3 : W3.heap.size <= g1 := (f2.lt g1 rfl).1
 have d2 := ((c2.kept n0 (.inr (by simp [Value.ownBlock]; omega))).kept s1 (.inr (by simp [Value.ownBlock]; omega))).kept s2 (.inr (by simp [Value.ownBlock]; omega))
 have g2 := ((f2.kept n0 (.inr (by simp [Value.ownBlock]; omega))).kept s1 (.inr (by simp [Value.ownBlock]; omega))).kept s2 (.inr (by simp [Value.ownBlock]; omega))
 have j2 : From w ((Z.setCell ⟨w.heap.size + 1, 0, none⟩ (zQ)).setCell ⟨w.heap.size + 1 + 1, 0, none⟩ (zQ)) := (i3.setCell (p := ⟨w.heap.size + 1, 0, none⟩) (by simp) _).setCell (p := ⟨w.heap.size + 1 + 1, 0, none⟩) (by simp <;> omega) _
 obtain ⟨Y, hY⟩ := xQ (((Z.setCell ⟨w.heap.size + 1, 0, none⟩ (zQ)).setCell ⟨w.heap.size + 1 + 1, 0, none⟩ (zQ)))
 rw [<- hY] at q1 k1 n1 d2 g2 j2 ⊢
 clear hY s1 s2
 obtain ⟨y0, y1, y2, y3, y4⟩ := q1.t5
 have z1 := k1.t1
 have z2 := n1.t1
 refine leaves_cons (f := 36) (args := #[pQ (w.heap.size + 1), pQ (w.heap.size + 1 + 1)]) (by simp) (by simp [go_sem]) ?_
 refine (Zm _ _ _).mono ?_
 rintro e u' w'' ⟨rfl, rfl, rfl⟩
 have hR : (∃ g0' m0 g1' w0, Ending.returned (.tuple #[hamV g0 c0, zQ, zQ]) = .returned (.tuple #[hamV g0' m0, zQ, zQ]) ∧ HamE w'' w.heap.size g0' m0 g1' w0 ∧ From w w'') := ⟨g0, c0, g1, c1, rfl, ⟨Dd d2 (by omega), Dd g2 (by omega)⟩, j2⟩
 refine ⟨.tuple #[hamV g0 c0, zQ, zQ], ?_, hR⟩
 simp [results, Tryz.results15, go_sem, y0, y1, y2, y3, y4, z1, z2]
theorem Sx (w : WQ) (n : Nat) (h : n <= 9999999) : cQ 183 #[nQ n] w (Ba (.bool true) w) := by
 have h1 : (n : Int) <= 9999999 := by omega
 have h0 : (0 : Int) <= (n : Int) := by omega
 clear h
 go_enter Tryz.func183, Tryz.ntmps183
 go_wp2
 go_ret
 exact ⟨rfl, rfl⟩
theorem Qc (w : WQ) (s : ByteArray) (h0 : 0 < s.size) (h16 : s.size <= 16) (hn : s.toList ≠ []) (hl : ∀ h : 0 < s.size, letB (s[0]'h).toNat = true) (hall : ∀ i (h : i < s.size), namB s[i].toNat = true) :
  cQ 184 #[.string s] w (Ba (.bool true) w) := by
 have HL : Hid (∀ wx, cQ 72 #[.int .u8 ((s[0]'h0).toNat : Int)] wx (Ba (.bool true) wx)) := sK fun wx => by
  have := Bx wx (s[0]'h0).toNat
  rwa [hl h0] at this
 have HW : Hid (∀ wx, cQ 73 #[.string s, zQ, .func (Fn.func 74) #[] #[]] wx (Ba (nQ s.size) wx)) := sK fun wx => Qf wx s 0 s.size (by omega) (qb _) (fun i h _ _ => hall i h) (fun h => absurd h (Nat.lt_irrefl _)) (by omega)
 have h1 : (s.size : Int) <= 16 := by omega
 have h2 : (0 : Int) < (s.size : Int) := by omega
 have he : s.toList.isEmpty = false := by cases hs : s.toList with
  | nil => exact absurd hs hn
  | cons a l => rfl
 clear hl hall h16
 go_enter Tryz.func184, Tryz.ntmps184
 go_wp2_with (first | (go_at_call 72; refine (HL _).mono ?_; rintro e w' ⟨rfl, rfl⟩) | (go_at_call 73; refine (HW _).mono ?_; rintro e w' ⟨rfl, rfl⟩))
 go_ret
 exact ⟨rfl, rfl⟩
theorem qI (w : WQ) : cQ 184 #[.string bGf] w (Ba (.bool true) w) := Qc w bGf (by decide) (by decide) (by rw [ByteArray.toList_eq]; decide) (fun _ => rfl) (by decide)
theorem lV (w : WQ) : cQ 184 #[.string bHam] w (Ba (.bool true) w) := Qc w bHam (by decide) (by decide) (by rw [ByteArray.toList_eq]; decide) (fun _ => rfl) (by decide)
abbrev numV (n : Nat) : Value := .agg #[.int .i64 1, .string { data := #[] }, nQ n, eQ, eQ]
abbrev Cw (s : ByteArray) (g n c : Nat) : Value := .agg #[.int .i64 3, .string s, zQ, eQ, .slice (sQ g) n c]
theorem jG (w : WQ) (n : Nat) (h : n <= 9999999) : cQ 129 #[numV n] w (Ah (.bool true) w) := by
 have HN := sK fun (wx : WQ) => Sx wx n h
 have he : (({ data := #[] } : ByteArray).toList == ({ data := #[] } : ByteArray).toList) = true := by simp
 clear h
 unfold Ah
 go_enter Tryz.func129, Tryz.ntmps129
 go_upto_region 1 with fail
 obtain ⟨W, hW, e0, a0, b0⟩ := mk1 w #[.int .i64 1, .string { data := #[] }, nQ n, eQ, eQ] 40
 rw [hW]
 clear hW
 obtain ⟨c0, c1, c2, c3, c4⟩ := b0.t5
 have d0 := sK a0
 clear b0 a0 e0
 go_wp2
 refine wp_loop_rounds 1 ?_
 rw [rounds_succ]
 go_wp2_with (go_at_call 183; refine (HN _).mono ?_; rintro e w' ⟨rfl, rfl⟩)
 go_ret
 exact ⟨rfl, d0.out⟩
theorem Rm (w : WQ) (s : ByteArray) (hs : ∀ wx, cQ 184 #[.string s] wx (Ba (.bool true) wx)) (g n c : Nat) : cQ 129 #[Cw s g n c] w (Ah (.bool true) w) := by
 have HN := sK hs
 clear hs
 unfold Ah
 go_enter Tryz.func129, Tryz.ntmps129
 go_upto_region 1 with fail
 obtain ⟨W, hW, e0, a0, b0⟩ := mk1 w #[.int .i64 3, .string s, zQ, eQ, .slice (sQ g) n c] 40
 rw [hW]
 clear hW
 obtain ⟨c0, c1, c2, c3, c4⟩ := b0.t5
 have d0 := sK a0
 clear b0 a0 e0
 go_wp2
 refine wp_loop_rounds 1 ?_
 rw [rounds_succ]
 go_wp2_with (go_at_call 184; refine (HN _).mono ?_; rintro e w' ⟨rfl, rfl⟩)
 go_ret
 exact ⟨rfl, d0.out⟩
structure RowE (w : WQ) (g n c : Nat) (vs : VQ) : Prop where
 cells : ∀ j u, vs[j]? = some u -> w.cell? ⟨g, j, none⟩ = some u
 lt : g < w.heap.size
 cap : n <= c
 max : c <= maxLen
theorem RowE.below {w w' : WQ} {g n c : Nat} {vs : VQ} (h : RowE w g n c vs) (hb : From w w') : RowE w' g n c vs :=
 ⟨fun j u hj => (hb.cell (p := ⟨g, j, none⟩) h.lt).trans (h.cells j u hj), qk h.lt hb.size, h.cap, h.max⟩
theorem HamE.rows {w : WQ} {B g0 c0 g1 c1 : Nat} (h : HamE w B g0 c0 g1 c1) : RowE w g0 2 c0 (gfV g1 c1 ++ num3) ∧ RowE w g1 1 c1 num2 := by
 have key : ∀ {g n c : Nat} {vs : VQ}, w.ownsRow B 40 5 (.slice (sQ g) n c) n vs -> RowE w g n c vs := fun {g n c vs} ho => by
  rcases Ce ho with ⟨e, _⟩ | ⟨b, c', e, _, h3, h4, h5⟩
  ·cases e
  ·simp only [qm, qc, qd, and_true] at e
   obtain ⟨rfl, _, rfl⟩ := e; refine ⟨fun j u hj => ?_, h3, h4, h5⟩; have hl := (qbb.1 hj).1; rw [ho.cellAt j (by have := ho.1; omega), hj]
 exact ⟨key h.top, key h.sub⟩
theorem Xh (w : WQ) (n : Nat) (h : n <= 9999999) : cQ 82 #[numV n] w (Ah (.bool true) w) := by
 have HN := sK fun (wx : WQ) => jG wx n h
 clear h
 unfold Ah at *
 go_enter Tryz.func82, Tryz.ntmps82
 go_upto_region 1 with fail
 obtain ⟨W, hW, h0, d0, b0⟩ := mk1 w #[.int .i64 1, .string { data := #[] }, nQ n, eQ, eQ] 40
 rw [hW]
 clear hW
 have HB := sK b0
 have HF := sK d0
 clear b0 d0 h0
 obtain ⟨b0, b1, b2, b3, b4⟩ := HB.t5
 go_upto_region 3 with (go_at_call 129; refine (HN W).mono ?_; rintro e wn ⟨rfl, o0⟩)
 have l0 := sK (Aa o0 HF.out)
 have d1 := sK (HB.below o0)
 clear o0 b0 b1 b2 b3 b4
 obtain ⟨b0, b1, b2, b3, b4⟩ := d1.t5
 go_upto_region 4 with fail
 clear b0 b1 b2 b3 b4
 refine wp_loop_rounds 1 ?_
 rw [rounds_succ]
 go_wp2
 go_ret
 exact ⟨rfl, l0.out⟩
theorem oW (w : WQ) (g1 c1 : Nat) (hg : RowE w g1 1 c1 num2) : cQ 82 #[Cw bGf g1 1 c1] w (Ah (.bool true) w) := by
 have HN := sK fun (wx : WQ) => Rm wx bGf qI g1 1 c1
 have m0 : Hid (∀ wx, From w wx -> cQ 82 #[.agg #[.int .i64 1, .string { data := #[] }, .int .i64 2, eQ, eQ]] wx (Ah (.bool true) wx)) := sK fun wx h9 => Xh _ 2 (by omega)
 have HG := sK hg
 have h1 := hg.cap
 have t0 := hg.max
 unfold maxLen at t0
 clear hg
 unfold Ah at *
 obtain ⟨s, hs⟩ := xQ bGf
 simp only [Cw] at HN ⊢
 rw [<- hs] at HN ⊢
 clear hs
 go_enter Tryz.func82, Tryz.ntmps82
 go_upto_region 1 with fail
 obtain ⟨W, hW, h0, d0, b0⟩ := mk1 w #[.int .i64 3, .string s, zQ, eQ, .slice (sQ g1) 1 c1] 40
 rw [hW]
 clear hW
 have HB := sK b0
 have HF := sK d0
 clear b0 d0 h0
 obtain ⟨b0, b1, b2, b3, b4⟩ := HB.t5
 go_upto_region 3 with (go_at_call 129; refine (HN W).mono ?_; rintro e wn ⟨rfl, o0⟩)
 have l0 := sK (Aa o0 HF.out)
 have d1 := sK (HB.below o0)
 clear o0 b0 b1 b2 b3 b4
 obtain ⟨b0, b1, b2, b3, b4⟩ := d1.t5
 go_upto_region 4 with fail
 clear b0 b1 b2 b3 b4
 refine wp_loop_rounds 2 ?_
 rw [rounds_succ]
 have r0 := (HG.below l0.out).cells 0 _ rfl
 have r1 := (HG.below l0.out).cells 1 _ rfl
 have r2 := (HG.below l0.out).cells 2 _ rfl
 have r3 := (HG.below l0.out).cells 3 _ rfl
 have r4 := (HG.below l0.out).cells 4 _ rfl
 go_upto_region 6 with fail
 obtain ⟨Y0, i0, n0, j0, y0⟩ := mk1 wn #[.int .i64 1, .string { data := #[] }, .int .i64 2, eQ, eQ] 40
 rw [i0]
 clear i0
 obtain ⟨q0, q1, q2, q3, q4⟩ := y0.t5
 have f0 := sK (Aa j0 l0.out)
 clear y0 j0 n0 r0 r1 r2 r3 r4
 go_wp2_with (go_at_call 82; refine (m0 Y0 f0.out).mono ?_; rintro e z0 ⟨rfl, e0⟩)
 have a0 := sK (Aa e0 f0.out)
 clear e0 q0 q1 q2 q3 q4
 rw [rounds_succ]
 go_wp2
 go_ret
 exact ⟨rfl, a0.out⟩
theorem kW (w : WQ) (g0 c0 g1 c1 : Nat) (hg : RowE w g0 2 c0 (gfV g1 c1 ++ num3)) (hg1 : RowE w g1 1 c1 num2) : cQ 82 #[Cw bHam g0 2 c0] w (Ah (.bool true) w) := by
 have HN := sK fun (wx : WQ) => Rm wx bHam lV g0 2 c0
 have m0 : Hid (∀ wx, From w wx -> cQ 82 #[.agg #[.int .i64 3, .string bGf, zQ, eQ, .slice (sQ g1) 1 c1]] wx (Ah (.bool true) wx)) := sK fun wx h9 => oW _ g1 c1 (hg1.below h9)
 have a1 : Hid (∀ wx, From w wx -> cQ 82 #[.agg #[.int .i64 1, .string { data := #[] }, .int .i64 3, eQ, eQ]] wx (Ah (.bool true) wx)) := sK fun wx h9 => Xh _ 3 (by omega)
 have HG := sK hg
 have h1 := hg.cap
 have t0 := hg.max
 unfold maxLen at t0
 clear hg hg1
 unfold Ah at *
 obtain ⟨s, hs⟩ := xQ bHam
 simp only [Cw] at HN ⊢
 rw [<- hs] at HN ⊢
 clear hs
 go_enter Tryz.func82, Tryz.ntmps82
 go_upto_region 1 with fail
 obtain ⟨W, hW, h0, d0, b0⟩ := mk1 w #[.int .i64 3, .string s, zQ, eQ, .slice (sQ g0) 2 c0] 40
 rw [hW]
 clear hW
 have HB := sK b0
 have HF := sK d0
 clear b0 d0 h0
 obtain ⟨b0, b1, b2, b3, b4⟩ := HB.t5
 go_upto_region 3 with (go_at_call 129; refine (HN W).mono ?_; rintro e wn ⟨rfl, o0⟩)
 have l0 := sK (Aa o0 HF.out)
 have d1 := sK (HB.below o0)
 clear o0 b0 b1 b2 b3 b4
 obtain ⟨b0, b1, b2, b3, b4⟩ := d1.t5
 go_upto_region 4 with fail
 clear b0 b1 b2 b3 b4
 refine wp_loop_rounds 3 ?_
 rw [rounds_succ]
 have r0 := (HG.below l0.out).cells 0 _ rfl
 have r1 := (HG.below l0.out).cells 1 _ rfl
 have r2 := (HG.below l0.out).cells 2 _ rfl
 have r3 := (HG.below l0.out).cells 3 _ rfl
 have r4 := (HG.below l0.out).cells 4 _ rfl
 go_upto_region 6 with fail
 obtain ⟨Y0, i0, n0, j0, y0⟩ := mk1 wn #[.int .i64 3, .string bGf, zQ, eQ, .slice (sQ g1) 1 c1] 40
 rw [i0]
 clear i0
 obtain ⟨q0, q1, q2, q3, q4⟩ := y0.t5
 have f0 := sK (Aa j0 l0.out)
 clear y0 j0 n0 r0 r1 r2 r3 r4
 go_wp2_with (go_at_call 82; refine (m0 Y0 f0.out).mono ?_; rintro e z0 ⟨rfl, e0⟩)
 have a0 := sK (Aa e0 f0.out)
 clear e0 q0 q1 q2 q3 q4
 rw [rounds_succ]
 have r0 := (HG.below a0.out).cells 5 _ rfl
 have r1 := (HG.below a0.out).cells 6 _ rfl
 have r2 := (HG.below a0.out).cells 7 _ rfl
 have r3 := (HG.below a0.out).cells 8 _ rfl
 have r4 := (HG.below a0.out).cells 9 _ rfl
 go_upto_region 6 with fail
 obtain ⟨Y1, w0, f1, x0, y0⟩ := mk1 z0 #[.int .i64 1, .string { data := #[] }, .int .i64 3, eQ, eQ] 40
 rw [w0]
 clear w0
 obtain ⟨q0, q1, q2, q3, q4⟩ := y0.t5
 have v0 := sK (Aa x0 a0.out)
 clear y0 x0 f1 r0 r1 r2 r3 r4
 go_wp2_with (go_at_call 82; refine (a1 Y1 v0.out).mono ?_; rintro e z1 ⟨rfl, e0⟩)
 have e1 := sK (Aa e0 v0.out)
 clear e0 q0 q1 q2 q3 q4
 rw [rounds_succ]
 go_wp2
 go_ret
 exact ⟨rfl, e1.out⟩
theorem Nd (w : WQ) (n : Nat) (h : n <= 9999999) : cQ 83 #[numV n] w (Ah (.tuple #[.int .i64 1, .bool true]) w) := by
 clear h
 unfold Ah
 go_enter Tryz.func83, Tryz.ntmps83
 go_upto_region 1 with fail
 obtain ⟨W, hW, h0, d0, b0⟩ := mk1 w #[.int .i64 1, .string { data := #[] }, nQ n, eQ, eQ] 40
 rw [hW]
 clear hW
 have HB := sK b0
 have HF := sK d0
 clear b0 d0 h0
 obtain ⟨b0, b1, b2, b3, b4⟩ := HB.t5
 go_upto_region 3 with fail
 clear b0 b1 b2 b3 b4
 refine wp_loop_rounds 1 ?_
 rw [rounds_succ]
 go_wp2
 go_ret2
 exact ⟨rfl, HF.out⟩
theorem Zh (w : WQ) (g1 c1 : Nat) (hg : RowE w g1 1 c1 num2) : cQ 83 #[Cw bGf g1 1 c1] w (Ah (.tuple #[.int .i64 2, .bool true]) w) := by
 have m0 : Hid (∀ wx, From w wx -> cQ 83 #[.agg #[.int .i64 1, .string { data := #[] }, .int .i64 2, eQ, eQ]] wx (Ah (.tuple #[.int .i64 1, .bool true]) wx)) := sK fun wx h9 => Nd _ 2 (by omega)
 have HG := sK hg
 have h1 := hg.cap
 have t0 := hg.max
 unfold maxLen at t0
 clear hg
 unfold Ah at *
 obtain ⟨s, hs⟩ := xQ bGf
 simp only [Cw]
 rw [<- hs]
 clear hs
 go_enter Tryz.func83, Tryz.ntmps83
 go_upto_region 1 with fail
 obtain ⟨W, hW, h0, d0, b0⟩ := mk1 w #[.int .i64 3, .string s, zQ, eQ, .slice (sQ g1) 1 c1] 40
 rw [hW]
 clear hW
 have HB := sK b0
 have HF := sK d0
 clear b0 d0 h0
 obtain ⟨b0, b1, b2, b3, b4⟩ := HB.t5
 go_upto_region 3 with fail
 clear b0 b1 b2 b3 b4
 refine wp_loop_rounds 2 ?_
 rw [rounds_succ]
 have r0 := (HG.below HF.out).cells 0 _ rfl
 have r1 := (HG.below HF.out).cells 1 _ rfl
 have r2 := (HG.below HF.out).cells 2 _ rfl
 have r3 := (HG.below HF.out).cells 3 _ rfl
 have r4 := (HG.below HF.out).cells 4 _ rfl
 go_upto_region 5 with fail
 obtain ⟨Y0, i0, n0, j0, y0⟩ := mk1 W #[.int .i64 1, .string { data := #[] }, .int .i64 2, eQ, eQ] 40
 rw [i0]
 clear i0
 obtain ⟨q0, q1, q2, q3, q4⟩ := y0.t5
 have f0 := sK (Aa j0 HF.out)
 clear y0 j0 n0 r0 r1 r2 r3 r4
 go_wp2_with (go_at_call 83; refine (m0 Y0 f0.out).mono ?_; rintro e z0 ⟨rfl, e0⟩)
 have a0 := sK (Aa e0 f0.out)
 clear e0 q0 q1 q2 q3 q4
 rw [rounds_succ]
 go_wp2
 go_ret2
 exact ⟨rfl, a0.out⟩
theorem Vd (w : WQ) (g0 c0 g1 c1 : Nat) (hg : RowE w g0 2 c0 (gfV g1 c1 ++ num3)) (hg1 : RowE w g1 1 c1 num2) : cQ 83 #[Cw bHam g0 2 c0] w (Ah (.tuple #[.int .i64 3, .bool true]) w) := by
 have m0 : Hid (∀ wx, From w wx -> cQ 83 #[.agg #[.int .i64 3, .string bGf, zQ, eQ, .slice (sQ g1) 1 c1]] wx (Ah (.tuple #[.int .i64 2, .bool true]) wx)) := sK fun wx h9 => Zh _ g1 c1 (hg1.below h9)
 have a1 : Hid (∀ wx, From w wx -> cQ 83 #[.agg #[.int .i64 1, .string { data := #[] }, .int .i64 3, eQ, eQ]] wx (Ah (.tuple #[.int .i64 1, .bool true]) wx)) := sK fun wx h9 => Nd _ 3 (by omega)
 have HG := sK hg
 have h1 := hg.cap
 have t0 := hg.max
 unfold maxLen at t0
 clear hg hg1
 unfold Ah at *
 obtain ⟨s, hs⟩ := xQ bHam
 simp only [Cw]
 rw [<- hs]
 clear hs
 go_enter Tryz.func83, Tryz.ntmps83
 go_upto_region 1 with fail
 obtain ⟨W, hW, h0, d0, b0⟩ := mk1 w #[.int .i64 3, .string s, zQ, eQ, .slice (sQ g0) 2 c0] 40
 rw [hW]
 clear hW
 have HB := sK b0
 have HF := sK d0
 clear b0 d0 h0
 obtain ⟨b0, b1, b2, b3, b4⟩ := HB.t5
 go_upto_region 3 with fail
 clear b0 b1 b2 b3 b4
 refine wp_loop_rounds 3 ?_
 rw [rounds_succ]
 have r0 := (HG.below HF.out).cells 0 _ rfl
 have r1 := (HG.below HF.out).cells 1 _ rfl
 have r2 := (HG.below HF.out).cells 2 _ rfl
 have r3 := (HG.below HF.out).cells 3 _ rfl
 have r4 := (HG.below HF.out).cells 4 _ rfl
 go_upto_region 5 with fail
 obtain ⟨Y0, i0, n0, j0, y0⟩ := mk1 W #[.int .i64 3, .string bGf, zQ, eQ, .slice (sQ g1) 1 c1] 40
 rw [i0]
 clear i0
 obtain ⟨q0, q1, q2, q3, q4⟩ := y0.t5
 have f0 := sK (Aa j0 HF.out)
 clear y0 j0 n0 r0 r1 r2 r3 r4
 go_wp2_with (go_at_call 83; refine (m0 Y0 f0.out).mono ?_; rintro e z0 ⟨rfl, e0⟩)
 have a0 := sK (Aa e0 f0.out)
 clear e0 q0 q1 q2 q3 q4
 rw [rounds_succ]
 have r0 := (HG.below a0.out).cells 5 _ rfl
 have r1 := (HG.below a0.out).cells 6 _ rfl
 have r2 := (HG.below a0.out).cells 7 _ rfl
 have r3 := (HG.below a0.out).cells 8 _ rfl
 have r4 := (HG.below a0.out).cells 9 _ rfl
 go_upto_region 5 with fail
 obtain ⟨Y1, w0, f1, x0, y0⟩ := mk1 z0 #[.int .i64 1, .string { data := #[] }, .int .i64 3, eQ, eQ] 40
 rw [w0]
 clear w0
 obtain ⟨q0, q1, q2, q3, q4⟩ := y0.t5
 have v0 := sK (Aa x0 a0.out)
 clear y0 x0 f1 r0 r1 r2 r3 r4
 go_wp2_with (go_at_call 83; refine (a1 Y1 v0.out).mono ?_; rintro e z1 ⟨rfl, e0⟩)
 have e1 := sK (Aa e0 v0.out)
 clear e0 q0 q1 q2 q3 q4
 rw [rounds_succ]
 go_wp2
 go_ret2
 exact ⟨rfl, e1.out⟩
theorem Vh (w : WQ) (n : Nat) (h : n <= 9999999) : cQ 84 #[numV n] w (Ah (.int .i64 1) w) := by
 clear h
 unfold Ah
 go_enter Tryz.func84, Tryz.ntmps84
 go_upto_region 1 with fail
 obtain ⟨W, hW, h0, d0, b0⟩ := mk1 w #[.int .i64 1, .string { data := #[] }, nQ n, eQ, eQ] 40
 rw [hW]
 clear hW
 have HB := sK b0
 have HF := sK d0
 clear b0 d0 h0
 obtain ⟨b0, b1, b2, b3, b4⟩ := HB.t5
 go_upto_region 3 with fail
 clear b0 b1 b2 b3 b4
 refine wp_loop_rounds 1 ?_
 rw [rounds_succ]
 go_wp2
 go_ret
 exact ⟨rfl, HF.out⟩
theorem qC (w : WQ) (g1 c1 : Nat) (hg : RowE w g1 1 c1 num2) : cQ 84 #[Cw bGf g1 1 c1] w (Ah (.int .i64 2) w) := by
 have m0 : Hid (∀ wx, From w wx -> cQ 84 #[.agg #[.int .i64 1, .string { data := #[] }, .int .i64 2, eQ, eQ]] wx (Ah (.int .i64 1) wx)) := sK fun wx h9 => Vh _ 2 (by omega)
 have HG := sK hg
 have h1 := hg.cap
 have t0 := hg.max
 unfold maxLen at t0
 clear hg
 unfold Ah at *
 obtain ⟨s, hs⟩ := xQ bGf
 simp only [Cw]
 rw [<- hs]
 clear hs
 go_enter Tryz.func84, Tryz.ntmps84
 go_upto_region 1 with fail
 obtain ⟨W, hW, h0, d0, b0⟩ := mk1 w #[.int .i64 3, .string s, zQ, eQ, .slice (sQ g1) 1 c1] 40
 rw [hW]
 clear hW
 have HB := sK b0
 have HF := sK d0
 clear b0 d0 h0
 obtain ⟨b0, b1, b2, b3, b4⟩ := HB.t5
 go_upto_region 3 with fail
 clear b0 b1 b2 b3 b4
 refine wp_loop_rounds 2 ?_
 rw [rounds_succ]
 have r0 := (HG.below HF.out).cells 0 _ rfl
 have r1 := (HG.below HF.out).cells 1 _ rfl
 have r2 := (HG.below HF.out).cells 2 _ rfl
 have r3 := (HG.below HF.out).cells 3 _ rfl
 have r4 := (HG.below HF.out).cells 4 _ rfl
 go_upto_region 5 with fail
 obtain ⟨Y0, i0, n0, j0, y0⟩ := mk1 W #[.int .i64 1, .string { data := #[] }, .int .i64 2, eQ, eQ] 40
 rw [i0]
 clear i0
 obtain ⟨q0, q1, q2, q3, q4⟩ := y0.t5
 have f0 := sK (Aa j0 HF.out)
 clear y0 j0 n0 r0 r1 r2 r3 r4
 go_wp2_with (go_at_call 84; refine (m0 Y0 f0.out).mono ?_; rintro e z0 ⟨rfl, e0⟩)
 have a0 := sK (Aa e0 f0.out)
 clear e0 q0 q1 q2 q3 q4
 rw [rounds_succ]
 go_wp2
 go_ret
 exact ⟨rfl, a0.out⟩
theorem jI (w : WQ) (g0 c0 g1 c1 : Nat) (hg : RowE w g0 2 c0 (gfV g1 c1 ++ num3)) (hg1 : RowE w g1 1 c1 num2) : cQ 84 #[Cw bHam g0 2 c0] w (Ah (.int .i64 4) w) := by
 have m0 : Hid (∀ wx, From w wx -> cQ 84 #[.agg #[.int .i64 3, .string bGf, zQ, eQ, .slice (sQ g1) 1 c1]] wx (Ah (.int .i64 2) wx)) := sK fun wx h9 => qC _ g1 c1 (hg1.below h9)
 have a1 : Hid (∀ wx, From w wx -> cQ 84 #[.agg #[.int .i64 1, .string { data := #[] }, .int .i64 3, eQ, eQ]] wx (Ah (.int .i64 1) wx)) := sK fun wx h9 => Vh _ 3 (by omega)
 have HG := sK hg
 have h1 := hg.cap
 have t0 := hg.max
 unfold maxLen at t0
 clear hg hg1
 unfold Ah at *
 obtain ⟨s, hs⟩ := xQ bHam
 simp only [Cw]
 rw [<- hs]
 clear hs
 go_enter Tryz.func84, Tryz.ntmps84
 go_upto_region 1 with fail
 obtain ⟨W, hW, h0, d0, b0⟩ := mk1 w #[.int .i64 3, .string s, zQ, eQ, .slice (sQ g0) 2 c0] 40
 rw [hW]
 clear hW
 have HB := sK b0
 have HF := sK d0
 clear b0 d0 h0
 obtain ⟨b0, b1, b2, b3, b4⟩ := HB.t5
 go_upto_region 3 with fail
 clear b0 b1 b2 b3 b4
 refine wp_loop_rounds 3 ?_
 rw [rounds_succ]
 have r0 := (HG.below HF.out).cells 0 _ rfl
 have r1 := (HG.below HF.out).cells 1 _ rfl
 have r2 := (HG.below HF.out).cells 2 _ rfl
 have r3 := (HG.below HF.out).cells 3 _ rfl
 have r4 := (HG.below HF.out).cells 4 _ rfl
 go_upto_region 5 with fail
 obtain ⟨Y0, i0, n0, j0, y0⟩ := mk1 W #[.int .i64 3, .string bGf, zQ, eQ, .slice (sQ g1) 1 c1] 40
 rw [i0]
 clear i0
 obtain ⟨q0, q1, q2, q3, q4⟩ := y0.t5
 have f0 := sK (Aa j0 HF.out)
 clear y0 j0 n0 r0 r1 r2 r3 r4
 go_wp2_with (go_at_call 84; refine (m0 Y0 f0.out).mono ?_; rintro e z0 ⟨rfl, e0⟩)
 have a0 := sK (Aa e0 f0.out)
 clear e0 q0 q1 q2 q3 q4
 rw [rounds_succ]
 have r0 := (HG.below a0.out).cells 5 _ rfl
 have r1 := (HG.below a0.out).cells 6 _ rfl
 have r2 := (HG.below a0.out).cells 7 _ rfl
 have r3 := (HG.below a0.out).cells 8 _ rfl
 have r4 := (HG.below a0.out).cells 9 _ rfl
 go_upto_region 5 with fail
 obtain ⟨Y1, w0, f1, x0, y0⟩ := mk1 z0 #[.int .i64 1, .string { data := #[] }, .int .i64 3, eQ, eQ] 40
 rw [w0]
 clear w0
 obtain ⟨q0, q1, q2, q3, q4⟩ := y0.t5
 have v0 := sK (Aa x0 a0.out)
 clear y0 x0 f1 r0 r1 r2 r3 r4
 go_wp2_with (go_at_call 84; refine (a1 Y1 v0.out).mono ?_; rintro e z1 ⟨rfl, e0⟩)
 have e1 := sK (Aa e0 v0.out)
 clear e0 q0 q1 q2 q3 q4
 rw [rounds_succ]
 go_wp2
 go_ret
 exact ⟨rfl, e1.out⟩
section
open Go.Shelf
def Tryz.lays170_ren : Go.Shelf.Ren := ⟨fun | 170 => 85 | n => n, fun | 70 => 77 | 3 => 3 | 0 => 0 | 72 => 80 | 37 => 78 | 5 => 5 | n => n, fun | n => n⟩
theorem Tryz.lays170 : Go.Proofs.Lays.n170 Tryz.prog Tryz.lays170_ren := {
 mixed := by kernel_rfl
 f170 := Tryz.func85.trans (congrArg some (by kernel_rfl))
 t0 := Tryz.underlying0
 a0 := Tryz.isAgg0
 z0 := Tryz.sizeOf0
 v0 := Tryz.zeroValue0
 t3 := Tryz.underlying3
 a3 := Tryz.isAgg3
 z3 := Tryz.sizeOf3
 v3 := Tryz.zeroValue3
 t37 := Tryz.underlying78
 a37 := Tryz.isAgg78
 z37 := Tryz.sizeOf78
 v37 := Tryz.zeroValue78
 t70 := Tryz.underlying77
 a70 := Tryz.isAgg77
 z70 := Tryz.sizeOf77
 v70 := Tryz.zeroValue77
 t72 := Tryz.underlying80
 a72 := Tryz.isAgg80
 z72 := Tryz.sizeOf80
 v72 := Tryz.zeroValue80 }
def Tryz.lays171_ren : Go.Shelf.Ren := ⟨fun | 171 => 88 | 243 => 131 | 246 => 186 | 283 => 283 | 284 => 284 | 285 => 285 | 286 => 286 | 129 => 343 | 317 => 348 | 318 => 349 | 319 => 350 | 320 => 351 | 337 => 381 | 338 => 382 | n => n, fun | 3 => 3 | 9 => 9 | 2 => 2 | 4 => 4 | 171 => 283 | 0 => 0 | 53 => 271 | 37 => 78 | 5 => 5 | 173 => 286 | 212 => 336 | 51 => 333 | 20 => 20 | 213 => 337 | 46 => 238 | 232 => 369 | 233 => 370 | n => n, fun | 17 => 3 | 18 => 4 | 19 => 5 | n => n⟩
theorem Tryz.lays171 : Go.Proofs.Lays.n171 Tryz.prog Tryz.lays171_ren := {
 mixed := by kernel_rfl
 f129 := Tryz.func343.trans (congrArg some (by kernel_rfl))
 f171 := Tryz.func88.trans (congrArg some (by kernel_rfl))
 f243 := Tryz.func131.trans (congrArg some (by kernel_rfl))
 f246 := Tryz.func186.trans (congrArg some (by kernel_rfl))
 f283 := Tryz.func283.trans (congrArg some (by kernel_rfl))
 f284 := Tryz.func284.trans (congrArg some (by kernel_rfl))
 f285 := Tryz.func285.trans (congrArg some (by kernel_rfl))
 f286 := Tryz.func286.trans (congrArg some (by kernel_rfl))
 f317 := Tryz.func348.trans (congrArg some (by kernel_rfl))
 f318 := Tryz.func349.trans (congrArg some (by kernel_rfl))
 f319 := Tryz.func350.trans (congrArg some (by kernel_rfl))
 f320 := Tryz.func351.trans (congrArg some (by kernel_rfl))
 f337 := Tryz.func381.trans (congrArg some (by kernel_rfl))
 f338 := Tryz.func382.trans (congrArg some (by kernel_rfl))
 t0 := Tryz.underlying0
 a0 := Tryz.isAgg0
 z0 := Tryz.sizeOf0
 v0 := Tryz.zeroValue0
 t2 := Tryz.underlying2
 a2 := Tryz.isAgg2
 z2 := Tryz.sizeOf2
 v2 := Tryz.zeroValue2
 t3 := Tryz.underlying3
 a3 := Tryz.isAgg3
 z3 := Tryz.sizeOf3
 v3 := Tryz.zeroValue3
 t4 := Tryz.underlying4
 a4 := Tryz.isAgg4
 z4 := Tryz.sizeOf4
 v4 := Tryz.zeroValue4
 t5 := Tryz.underlying5
 a5 := Tryz.isAgg5
 z5 := Tryz.sizeOf5
 v5 := Tryz.zeroValue5
 t9 := Tryz.underlying9
 a9 := Tryz.isAgg9
 z9 := Tryz.sizeOf9
 v9 := Tryz.zeroValue9
 t20 := Tryz.underlying20
 a20 := Tryz.isAgg20
 z20 := Tryz.sizeOf20
 v20 := Tryz.zeroValue20
 t37 := Tryz.underlying78
 a37 := Tryz.isAgg78
 z37 := Tryz.sizeOf78
 v37 := Tryz.zeroValue78
 t46 := Tryz.underlying238
 a46 := Tryz.isAgg238
 z46 := Tryz.sizeOf238
 v46 := Tryz.zeroValue238
 t51 := Tryz.underlying333
 a51 := Tryz.isAgg333
 z51 := Tryz.sizeOf333
 v51 := Tryz.zeroValue333
 t53 := Tryz.underlying271
 a53 := Tryz.isAgg271
 z53 := Tryz.sizeOf271
 v53 := Tryz.zeroValue271
 t171 := Tryz.underlying283
 a171 := Tryz.isAgg283
 z171 := Tryz.sizeOf283
 v171 := Tryz.zeroValue283
 t173 := Tryz.underlying286
 a173 := Tryz.isAgg286
 z173 := Tryz.sizeOf286
 v173 := Tryz.zeroValue286
 t212 := Tryz.underlying336
 a212 := Tryz.isAgg336
 z212 := Tryz.sizeOf336
 v212 := Tryz.zeroValue336
 t213 := Tryz.underlying337
 a213 := Tryz.isAgg337
 z213 := Tryz.sizeOf337
 t232 := Tryz.underlying369
 a232 := Tryz.isAgg369
 z232 := Tryz.sizeOf369
 v232 := Tryz.zeroValue369
 t233 := Tryz.underlying370
 a233 := Tryz.isAgg370
 z233 := Tryz.sizeOf370
 v233 := Tryz.zeroValue370
 g17 := by kernel_rfl
 g18 := by kernel_rfl
 g19 := by kernel_rfl }
open Go.RowKit Go.Sort Go.Lib in
theorem Tryz.strconv_Itoa_small (i : Nat) (hi : i < 100) (w : World) :
  Calls Tryz.prog 88 #[.int .i64 i] w fun e w' => e = .returned (.string ⟨(Lib.decDigits i).toArray⟩) ∧ w' = w := Any.strconv_Itoa_small Tryz.lays171 i hi w
def Tryz.lays189_ren : Go.Shelf.Ren := ⟨fun | 189 => 144 | 125 => 263 | 257 => 262 | 128 => 342 | 129 => 343 | 294 => 333 | 295 => 334 | 296 => 335 | 297 => 336 | 298 => 337 | 299 => 338 | 216 => 339 | 300 => 340 | 301 => 341 | 328 => 375 | 329 => 376 | 330 => 377 | 331 => 378 | 332 => 379 | 215 => 380 | 343 => 396 | n => n, fun | 28 => 22 | 3 => 3 | 46 => 238 | 0 => 0 | 51 => 333 | 53 => 271 | 4 => 4 | 183 => 326 | 182 => 325 | 131 => 124 | 5 => 5 | 9 => 9 | 218 => 355 | 222 => 68 | 228 => 367 | 229 => 163 | n => n, fun | n => n⟩
theorem Tryz.lays189 : Go.Proofs.Lays.n189 Tryz.prog Tryz.lays189_ren := {
 mixed := by kernel_rfl
 f125 := Tryz.func263.trans (congrArg some (by kernel_rfl))
 f128 := Tryz.func342.trans (congrArg some (by kernel_rfl))
 f129 := Tryz.func343.trans (congrArg some (by kernel_rfl))
 f189 := Tryz.func144.trans (congrArg some (by kernel_rfl))
 f215 := Tryz.func380.trans (congrArg some (by kernel_rfl))
 f216 := Tryz.func339.trans (congrArg some (by kernel_rfl))
 f257 := Tryz.func262.trans (congrArg some (by kernel_rfl))
 f294 := Tryz.func333.trans (congrArg some (by kernel_rfl))
 f295 := Tryz.func334.trans (congrArg some (by kernel_rfl))
 f296 := Tryz.func335.trans (congrArg some (by kernel_rfl))
 f297 := Tryz.func336.trans (congrArg some (by kernel_rfl))
 f298 := Tryz.func337.trans (congrArg some (by kernel_rfl))
 f299 := Tryz.func338.trans (congrArg some (by kernel_rfl))
 f300 := Tryz.func340.trans (congrArg some (by kernel_rfl))
 f301 := Tryz.func341.trans (congrArg some (by kernel_rfl))
 f328 := Tryz.func375.trans (congrArg some (by kernel_rfl))
 f329 := Tryz.func376.trans (congrArg some (by kernel_rfl))
 f330 := Tryz.func377.trans (congrArg some (by kernel_rfl))
 f331 := Tryz.func378.trans (congrArg some (by kernel_rfl))
 f332 := Tryz.func379.trans (congrArg some (by kernel_rfl))
 f343 := Tryz.func396.trans (congrArg some (by kernel_rfl))
 t0 := Tryz.underlying0
 a0 := Tryz.isAgg0
 z0 := Tryz.sizeOf0
 v0 := Tryz.zeroValue0
 t3 := Tryz.underlying3
 a3 := Tryz.isAgg3
 z3 := Tryz.sizeOf3
 v3 := Tryz.zeroValue3
 t4 := Tryz.underlying4
 a4 := Tryz.isAgg4
 z4 := Tryz.sizeOf4
 v4 := Tryz.zeroValue4
 t5 := Tryz.underlying5
 a5 := Tryz.isAgg5
 z5 := Tryz.sizeOf5
 v5 := Tryz.zeroValue5
 t9 := Tryz.underlying9
 a9 := Tryz.isAgg9
 z9 := Tryz.sizeOf9
 v9 := Tryz.zeroValue9
 t28 := Tryz.underlying22
 a28 := Tryz.isAgg22
 z28 := Tryz.sizeOf22
 v28 := Tryz.zeroValue22
 t46 := Tryz.underlying238
 a46 := Tryz.isAgg238
 z46 := Tryz.sizeOf238
 v46 := Tryz.zeroValue238
 t51 := Tryz.underlying333
 a51 := Tryz.isAgg333
 z51 := Tryz.sizeOf333
 v51 := Tryz.zeroValue333
 t53 := Tryz.underlying271
 a53 := Tryz.isAgg271
 z53 := Tryz.sizeOf271
 v53 := Tryz.zeroValue271
 t131 := Tryz.underlying124
 a131 := Tryz.isAgg124
 z131 := Tryz.sizeOf124
 v131 := Tryz.zeroValue124
 t182 := Tryz.underlying325
 a182 := Tryz.isAgg325
 z182 := Tryz.sizeOf325
 v182 := Tryz.zeroValue325
 t183 := Tryz.underlying326
 a183 := Tryz.isAgg326
 z183 := Tryz.sizeOf326
 v183 := Tryz.zeroValue326
 t218 := Tryz.underlying355
 a218 := Tryz.isAgg355
 z218 := Tryz.sizeOf355
 v218 := Tryz.zeroValue355
 t222 := Tryz.underlying68
 a222 := Tryz.isAgg68
 z222 := Tryz.sizeOf68
 v222 := Tryz.zeroValue68
 t228 := Tryz.underlying367
 a228 := Tryz.isAgg367
 z228 := Tryz.sizeOf367
 v228 := Tryz.zeroValue367
 t229 := Tryz.underlying163
 a229 := Tryz.isAgg163
 z229 := Tryz.sizeOf163
 v229 := Tryz.zeroValue163 }
open Go.Sort Go.RowKit in
theorem Tryz.slices_Sort_int (blk off cap : Nat) (zs : List Int) (w : World) (hH : Holds (Value.int .i64) w blk off zs.toArray) (hblk : blk < w.heap.size) (hsz : zs.length < 4611686018427387904) :
  Calls Tryz.prog 144 #[.slice (some ⟨blk, off, none⟩) zs.length cap] w fun e w' =>
   e = .returned (.tuple #[]) ∧ ∃ n os, w' = grow (putRow (Value.int .i64) (Sort.ahead w n) blk off (zs.mergeSort fun x y => decide (x <= y)).toArray) os := Any.slices_Sort_int Tryz.lays189 blk off cap zs w hH hblk hsz
def Tryz.lays264_ren : Go.Shelf.Ren := ⟨fun | 264 => 267 | n => n, fun | 53 => 271 | 46 => 238 | n => n, fun | n => n⟩
theorem Tryz.lays264 : Go.Proofs.Lays.n264 Tryz.prog Tryz.lays264_ren := {
 mixed := by kernel_rfl
 f264 := Tryz.func267.trans (congrArg some (by kernel_rfl))
 t46 := Tryz.underlying238
 a46 := Tryz.isAgg238
 z46 := Tryz.sizeOf238
 v46 := Tryz.zeroValue238
 t53 := Tryz.underlying271
 a53 := Tryz.isAgg271
 z53 := Tryz.sizeOf271
 v53 := Tryz.zeroValue271 }
open Go.RowKit Go.Lib in
theorem Tryz.bits_Mul64 (x y : Nat) (hx : x < 18446744073709551616) (hy : y < 18446744073709551616) (w : World) :
  Calls Tryz.prog 267 #[.int .u64 x, .int .u64 y] w fun e w' => e = .returned (.tuple #[.int .u64 ((x * y / 18446744073709551616 : Nat) : Int), .int .u64 ((x * y % 18446744073709551616 : Nat) : Int)]) ∧ w' = w := Any.bits_Mul64 Tryz.lays264 x y hx hy w
def Tryz.lays166_ren : Go.Shelf.Ren := ⟨fun | 166 => 87 | 240 => 130 | 276 => 185 | n => n, fun | 0 => 0 | 3 => 3 | 4 => 4 | 5 => 5 | 9 => 9 | 20 => 20 | 37 => 78 | 70 => 77 | 72 => 80 | 75 => 128 | 80 => 82 | 164 => 230 | n => n, fun | n => n⟩
theorem Tryz.lays166 : Go.Proofs.Lays.n166 Tryz.prog Tryz.lays166_ren := {
 mixed := by kernel_rfl
 f166 := Tryz.func87.trans (congrArg some (by kernel_rfl))
 f240 := Tryz.func130.trans (congrArg some (by kernel_rfl))
 f276 := Tryz.func185.trans (congrArg some (by kernel_rfl))
 t0 := Tryz.underlying0
 a0 := Tryz.isAgg0
 z0 := Tryz.sizeOf0
 v0 := Tryz.zeroValue0
 t3 := Tryz.underlying3
 a3 := Tryz.isAgg3
 z3 := Tryz.sizeOf3
 v3 := Tryz.zeroValue3
 t4 := Tryz.underlying4
 a4 := Tryz.isAgg4
 z4 := Tryz.sizeOf4
 v4 := Tryz.zeroValue4
 t9 := Tryz.underlying9
 a9 := Tryz.isAgg9
 z9 := Tryz.sizeOf9
 v9 := Tryz.zeroValue9
 t20 := Tryz.underlying20
 a20 := Tryz.isAgg20
 z20 := Tryz.sizeOf20
 v20 := Tryz.zeroValue20
 t37 := Tryz.underlying78
 a37 := Tryz.isAgg78
 z37 := Tryz.sizeOf78
 v37 := Tryz.zeroValue78
 t70 := Tryz.underlying77
 a70 := Tryz.isAgg77
 z70 := Tryz.sizeOf77
 v70 := Tryz.zeroValue77
 t72 := Tryz.underlying80
 a72 := Tryz.isAgg80
 z72 := Tryz.sizeOf80
 v72 := Tryz.zeroValue80
 t75 := Tryz.underlying128
 a75 := Tryz.isAgg128
 z75 := Tryz.sizeOf128
 v75 := Tryz.zeroValue128
 t164 := Tryz.underlying230
 a164 := Tryz.isAgg230
 z164 := Tryz.sizeOf230
 v164 := Tryz.zeroValue230
}
theorem Tryz.Builder_Extra_166 : Builder.Extra Tryz.prog Tryz.lays166_ren := {
 sizeBuilder := by kernel_rfl
 liesBuilder := by kernel_rfl
 t5 := Tryz.underlying5
 a5 := Tryz.isAgg5
 z5 := Tryz.sizeOf5
 v5 := Tryz.zeroValue5
 infoByte := by kernel_rfl
 cellsByte := by kernel_rfl
 sizeByte := by kernel_rfl
 neB5 := by decide }
def Tryz.lays167_ren : Go.Shelf.Ren := ⟨fun | 167 => 89 | 240 => 130 | 276 => 185 | n => n, fun | 0 => 0 | 3 => 3 | 4 => 4 | 5 => 5 | 9 => 9 | 20 => 20 | 37 => 78 | 70 => 77 | 72 => 80 | 75 => 128 | 80 => 82 | 164 => 230 | n => n, fun | n => n⟩
theorem Tryz.lays167 : Go.Proofs.Lays.n167 Tryz.prog Tryz.lays167_ren := {
 mixed := by kernel_rfl
 f167 := Tryz.func89.trans (congrArg some (by kernel_rfl))
 f240 := Tryz.func130.trans (congrArg some (by kernel_rfl))
 f276 := Tryz.func185.trans (congrArg some (by kernel_rfl))
 t0 := Tryz.underlying0
 a0 := Tryz.isAgg0
 z0 := Tryz.sizeOf0
 v0 := Tryz.zeroValue0
 t4 := Tryz.underlying4
 a4 := Tryz.isAgg4
 z4 := Tryz.sizeOf4
 v4 := Tryz.zeroValue4
 t5 := Tryz.underlying5
 a5 := Tryz.isAgg5
 z5 := Tryz.sizeOf5
 v5 := Tryz.zeroValue5
 t9 := Tryz.underlying9
 a9 := Tryz.isAgg9
 z9 := Tryz.sizeOf9
 v9 := Tryz.zeroValue9
 t20 := Tryz.underlying20
 a20 := Tryz.isAgg20
 z20 := Tryz.sizeOf20
 v20 := Tryz.zeroValue20
 t37 := Tryz.underlying78
 a37 := Tryz.isAgg78
 z37 := Tryz.sizeOf78
 v37 := Tryz.zeroValue78
 t70 := Tryz.underlying77
 a70 := Tryz.isAgg77
 z70 := Tryz.sizeOf77
 v70 := Tryz.zeroValue77
 t72 := Tryz.underlying80
 a72 := Tryz.isAgg80
 z72 := Tryz.sizeOf80
 v72 := Tryz.zeroValue80
 t75 := Tryz.underlying128
 a75 := Tryz.isAgg128
 z75 := Tryz.sizeOf128
 v75 := Tryz.zeroValue128
 t164 := Tryz.underlying230
 a164 := Tryz.isAgg230
 z164 := Tryz.sizeOf230
 v164 := Tryz.zeroValue230
}
theorem Tryz.Builder_Extra_167 : Builder.Extra Tryz.prog Tryz.lays167_ren := {
 sizeBuilder := by kernel_rfl
 liesBuilder := by kernel_rfl
 t5 := Tryz.underlying5
 a5 := Tryz.isAgg5
 z5 := Tryz.sizeOf5
 v5 := Tryz.zeroValue5
 infoByte := by kernel_rfl
 cellsByte := by kernel_rfl
 sizeByte := by kernel_rfl
 neB5 := by decide }
open Go.RowKit in
theorem Tryz.Builder_WriteByte_k (B b : Nat) (bs : List Value) (c : Int) (w : World) (h : Lib.IsBuilderF 80 5 B b bs w) (hlen : bs.length + 1 <= 140737488355328) (hBw : B <= w.heap.size) :
  Calls Tryz.prog 89 #[.pointer (some ⟨b, 0, none⟩), .int .u8 c] w fun e w' => e = .returned .nilIface ∧ (Lib.BuilderAtF 80 5 B b (.pointer (some ⟨b, 0, none⟩)) (bs ++ [.int .u8 c]) w' ∧ Below B w w' ∧ Lib.OthersKept 5 (some b) w w') := Any.Builder_WriteByte_k Tryz.lays167 Tryz.Builder_Extra_167 B b bs c w h hlen hBw
open Go.RowKit in
theorem Tryz.Builder_WriteString_k (B b : Nat) (bs : List Value) (s : ByteArray) (w : World) (h : Lib.IsBuilderF 80 5 B b bs w) (hlen : bs.length + s.size <= 140737488355328) (hBw : B <= w.heap.size) :
  Calls Tryz.prog 87 #[.pointer (some ⟨b, 0, none⟩), .string s] w fun e w' => e = .returned (.tuple #[.int .i64 s.size, .nilIface]) ∧ (Lib.BuilderAtF 80 5 B b (.pointer (some ⟨b, 0, none⟩)) (bs ++ Lib.strCells s) w' ∧ Below B w w' ∧ Lib.OthersKept 5 (some b) w w') := Any.Builder_WriteString_k Tryz.lays166 Tryz.Builder_Extra_166 B b bs s w h hlen hBw
open Go.RowKit in
theorem Tryz.Builder_Len_f (B b : Nat) (bs : List Value) (w : World) (h : Lib.IsBuilderF 80 5 B b bs w) :
  Calls Tryz.prog 85 #[.pointer (some ⟨b, 0, none⟩)] w fun e w' => e = .returned (.int .i64 bs.length) ∧ w' = w := Any.Builder_Len_f Tryz.lays170 B b bs w h
end
end Go.Proofs.YtoalkldfhkabnaaGreatDoor
