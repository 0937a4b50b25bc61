/- Part of WholeTraces. -/
import Derived.Test.YtoalkldfhkabnaaGreatDoorW00
import Derived.Test.YtoalkldfhkabnaaGreatDoorW04
import Derived.Test.YtoalkldfhkabnaaGreatDoorW10
set_option linter.all false
set_option maxRecDepth 10000
set_option maxHeartbeats 16000000
namespace Go.Proofs.YtoalkldfhkabnaaGreatDoor
open Go.RowKit Fq
def Lr (B : Nat) (t : TypeId) (cs : Array Value) (v : Value) (w : WQ) : Prop := ∃ x, v = pQ x ∧ B <= x ∧ w.heap[x]? = some (.cells cs t (0, 0))
theorem pW {w : WQ} {x : Nat} {o : Obj} (h : w.heap[x]? = some o) : x < w.heap.size := by
 rcases Nq x w.heap.size with hlt | hge
 ·exact hlt
 ·rw [qck hge] at h; cases h
theorem Lr.lasting {B : Nat} {t : TypeId} {cs : Array Value} : ∀ v w w', Below w.heap.size w w' -> Lr B t cs v w -> Lr B t cs v w' := fun _ _ _ hb ⟨x, h1, h2, h3⟩ => ⟨x, h1, h2, (hb.block x (pW h3)).trans h3⟩
theorem OwnM.keptT {w w' : WQ} {base n c r : Nat} {A : OQ} {R : LQ} (h : OwnM w base A n c R) (hg : w.grownBy w' (some r)) {cs : Array Value} {t : TypeId} (hr : w.heap[r]? = some (.cells cs t (0, 0))) (h1 : t ≠ 3) (h2 : t ≠ 22) : OwnM w' base A n c R := by
 obtain ⟨g, n', c', vs, R', rfl, hG, k2, k3, k4, rfl⟩ := h
 have key : ∀ (e : TypeId) (v : Value) (m : Nat) (xs : VQ), w.ownsRow base e 1 v m xs -> e ≠ t -> v.ownBlock ≠ some r := fun e v m xs hv he hb => by
  rcases hv.2 with ⟨e1, _⟩ | ⟨g', cap, cur, e1, _, e2, _⟩
  ·rw [e1] at hb; simp [Value.ownBlock] at hb
  ·rw [e1] at hb
   have : g' = r := by simpa [Value.ownBlock] using hb
   rw [this, hr] at e2; simp only [qc, Obj.cells.injEq] at e2; exact he e2.2.1.symm
 refine ⟨g, n', c', vs, R', rfl, hG.kept hg (fun e => ?_) (fun j b hj hb e => ?_), k2, k3, k4, rfl⟩
 ·exact key _ _ _ _ hG.grid.outer (fun e => h2 e.symm) (by simp only [qc] at e; simp [Value.ownBlock, e])
 ·obtain ⟨m, hm⟩ := hG.grid.inner j hj
  exact key _ _ _ _ hm (fun e => h1 e.symm) (by rw [hb, e])
def Hp (B m l : Nat) (K : LQ) (v : Value) (w : WQ) : Prop := ∃ g, v = .tuple #[.agg #[nQ m, .slice (sQ g) l l], zQ] ∧ OwnM w B (sQ g) l l K
theorem Hp.lasting {B m l : Nat} {K : LQ} : ∀ v w w', Below w.heap.size w w' -> Hp B m l K v w -> Hp B m l K v w' := fun _ _ _ hb ⟨g, h1, h2⟩ => ⟨g, h1, h2.below hb⟩
def Lx (B m l : Nat) (K : LQ) (v : Value) (w : WQ) : Prop := ∃ g, v = .agg #[nQ m, .slice (sQ g) l l] ∧ OwnM w B (sQ g) l l K
theorem Lx.lasting {B m l : Nat} {K : LQ} : ∀ v w w', Below w.heap.size w w' -> Lx B m l K v w -> Lx B m l K v w' := fun _ _ _ hb ⟨g, h1, h2⟩ => ⟨g, h1, h2.below hb⟩
def Ef (F : FD) (N : Nat) (K : LQ) (w : WQ) (e : Ending) (w' : WQ) : Prop :=
 ∃ A c B, e = .returned (.tuple #[Dj F A c N B K.length K.length, zQ]) ∧ RdN w' A (modL F).length c (modL F) ∧ OwnM w' w.heap.size B K.length K.length K ∧ Below w.heap.size w w' ∧ ∀ b l0, A = some ⟨b, l0, none⟩ -> 0 < (modL F).length -> w.heap.size <= b
theorem Il (w : WQ) (F : FD) (hF : F.Ok) (A : OQ) (c : Nat) (hmod : RdN w A (modL F).length c (modL F)) (N k cg : Nat) (B : OQ) (R : LQ) (P : NQ) (hR : RdM w B k cg R) (hRr : Rref F.fld N R P) (hN0 : 0 < N) (hN9 : N <= 64) (f0 : k <= 256) :
  cQ 10 #[Dj F A c N B k cg] w (Ef F N (kern F.fld R N) w) := by
 have i1 := fun (w' : WQ) (hb : Below w.heap.size w w') => Fj w' F hF A c (hmod.below hb) N k cg B R P (hR.below hb) hRr hN0 hN9 f0
 have r0 := fun (w' : WQ) => Nz w' F A c N k cg B
 have j0 := fun (w' : WQ) (hb : Below w.heap.size w w') => Yu w' F hF A c (hmod.below hb) N k cg B R (hR.below hb) hRr.mat hN0 (by omega) f0
 have g0 := fun (w' : WQ) (hb : Below w.heap.size w w') (G : OQ) (l : Nat) => Xu w' F hF A c (hmod.below hb) N l l G
 unfold Ya at j0
 unfold Oi at g0
 unfold Ef
 have e1 : Ax F A c = .agg #[nQ F.p, .int .i64 ((F.m + 1 : Nat) : Int), .slice A (modL F).length c] := rfl
 have e2 : ∀ A c N B k cg, Dj F A c N B k cg = .agg #[nQ F.p, .int .i64 ((F.m + 1 : Nat) : Int), .slice A (modL F).length c, nQ N, .slice B k cg] := fun _ _ _ _ _ _ => rfl
 simp only [e2] at i1 r0 g0 ⊢
 rw [e1] at j0 g0
 unfold matV at r0 j0 g0
 have j2 := sK i1
 have l2 := sK r0
 have m2 := sK j0
 have o2 := sK g0
 clear i1 r0 j0 g0 e1 e2 hmod hR hRr
 generalize kern F.fld R N = K at *
 generalize K.length = l at *
 generalize (modL F).length = mL at *
 generalize F.m + 1 = M at *
 go_enter Tryz.func10, Tryz.ntmps10
 go_upto_region 1 with fail
 obtain ⟨W, hW⟩ := xQ ((w.alloc (.cells #[nQ F.p, nQ M, .slice A mL c, nQ N, .slice B k cg] 27)).alloc (.cells #[zQ, zQ, eQ, zQ, eQ] 27))
 have s2 : W.heap.size = w.heap.size + 2 := by rw [hW]; simp
 have u1 : Below w.heap.size w W := by rw [hW]; exact ((bR).alloc (qb _) _).alloc (by simp) _
 have r1 : Blk W w.heap.size #[nQ F.p, nQ M, .slice A mL c, nQ N, .slice B k cg] := by rw [hW]; exact (Blk.new _ _ _).alloc _
 have s1 : Blk W (w.heap.size + 1) #[zQ, zQ, eQ, zQ, eQ] := by
  rw [hW]; have h9 := Blk.new (w.alloc (.cells #[nQ F.p, nQ M, .slice A mL c, nQ N, .slice B k cg] 27)) #[zQ, zQ, eQ, zQ, eQ] 27
  rwa [qi] at h9
 rw [<- hW]
 clear hW
 have v0 : Hid (∀ wx, From W wx -> wx.cell? ⟨w.heap.size, 0, none⟩ = some (nQ F.p) ∧ wx.cell? ⟨w.heap.size, 1, none⟩ = some (nQ M) ∧ wx.cell? ⟨w.heap.size, 2, none⟩ = some (.slice A mL c) ∧ wx.cell? ⟨w.heap.size, 3, none⟩ = some (nQ N) ∧ wx.cell? ⟨w.heap.size, 4, none⟩ = some (.slice B k cg)) := sK fun wx hx =>
  have h9 := r1.below hx
  ⟨h9.c0, h9.c1, h9.c2, h9.c3, h9.c4⟩
 have m0 := sK u1
 have l1 := sK s1
 obtain ⟨a0, a1, a2, a3, a4⟩ := v0 W (From.refl W)
 clear r1 s1 u1
 go_upto_region 4 with (go_at_call 23; refine (j2 W m0.out).mono ?_; rintro e w2 ⟨rfl, v1⟩)
 have i2 := sK v1
 clear v1 a0 a1 a2 a3 a4
 refine wpL 9 28 [(7, 5, 13)] [.v (pQ w.heap.size), .v (.agg #[nQ F.p, nQ M, .slice A mL c]), .v (.agg #[nQ F.p, nQ M, .slice A mL c, nQ N, .slice B k cg]), .v (.agg #[nQ N, .slice B k cg]), .r (Hp W.heap.size N l K) Hp.lasting, .r (Hp W.heap.size N l K) Hp.lasting, .r (Lx W.heap.size N l K) Lx.lasting, .v (zQ), .r (Lr W.heap.size 52 #[zQ, eQ]) Lr.lasting] W (by kernel_rfl) (by kernel_rfl) (by kernel_rfl) (by kernel_rfl) rfl (From.drew i2.out) (fun x f2 => ?_) (fun _ _ d9 _ _ h => by cases d9 <;> exact h) ?_
 ·simp only [qx, Kq, or_false] at f2
  rcases f2 with rfl
  ·intro a9 o9 v9 wx ho hx hv he
   obtain rfl := Aq ho; obtain ⟨g9, rfl, h9⟩ := (hv : (Hp W.heap.size N l K) v9 wx)
   exact ⟨zQ, Or.inl ⟨rfl, fun w9 => by simp only [execOp, he]; rfl⟩, rfl⟩
 simp only [Tk]
 iterate 4 (refine .z (fun wx hx _ hK => by first | (go_simp; exact Kz hK) | (obtain ⟨t2, u2, v2, x2, y2⟩ := v0 wx hx; go_simp; exact Kz hK) | (go_simp; refine (l2 wx).mono ?_; rintro e w' ⟨rfl, f1⟩; exact hK.out _ _ rfl f1)) ?_; simp only [Pt])
 refine .r (fun wx hx hd KK hK => ?_) (fun f3 => ?_)
 ·clear hd
  go_simp; refine (m2 wx (m0.trans (qf hx (by omega)))).mono ?_; rintro e w' ⟨g', rfl, p2, f1⟩; exact hK.out _ _ ⟨g', rfl, p2.mono hx.size⟩ f1
 simp only [Pt]
 refine .r (fun wx hx hd KK hK => ?_) (fun e3 => ?_)
 ·obtain ⟨n1, rfl, z0⟩ := hd _ (.head _) (by kernel_rfl)
  clear hd; go_simp; exact hK.out _ _ ⟨n1, rfl, z0⟩ (bR)
 simp only [Pt]
 refine .r (fun wx hx hd KK hK => ?_) (fun g3 => ?_)
 ·obtain ⟨w0, rfl, n0⟩ := hd _ (.head _) (by kernel_rfl)
  clear hd; go_simp; exact hK.out _ _ ⟨w0, rfl, n0⟩ (bR)
 simp only [Pt]
 refine .v (fun wx hx hd KK hK => ?_) ?_
 ·obtain ⟨w0, rfl, n0⟩ := hd _ (.tail _ (.head _)) (by kernel_rfl)
  clear hd; go_simp; exact Kz hK
 simp only [Pt]
 refine .r (fun wx hx hd KK hK => ?_) (fun v5 => ?_)
 ·clear hd
  go_simp; exact hK.out _ _ ⟨_, rfl, hx.size, (MapKept.heap_alloc _ _).1⟩ (Ac _ _)
 simp only [Pt]
 refine .nil fun w4 z1 hd => ?_
 obtain ⟨n1, rfl, z0⟩ := hd _ (.tail _ (.tail _ (.tail _ (.head _))))
 obtain ⟨w0, rfl, n0⟩ := hd _ (.tail _ (.tail _ (.head _)))
 obtain ⟨e0, rfl, o1⟩ := hd _ (.tail _ (.head _))
 obtain ⟨x5, rfl, l5, h5⟩ := hd _ (.head _)
 clear hd
 have hX : Blk w4 x5 #[zQ, eQ] := ⟨52, h5⟩
 have x0 : w4.cell? ⟨x5, 0, none⟩ = some (zQ) := hX.c0
 have x1 : w4.cell? ⟨x5, 1, none⟩ = some (eQ) := hX.c1
 have y0 := hX.free 0
 have y1 := hX.free 1
 have HX := sK hX
 have H5 := sK h5
 have g2 := sK o1
 have m1 := sK z1
 clear hX h5 o1 z0 n0 z1
 go_upto_region 5 with fail
 obtain ⟨w5, t0⟩ : ∃ x, x = (w4.setCell ⟨x5, 0, none⟩ (nQ N)).setCell ⟨x5, 1, none⟩ (.slice (sQ e0) l l) := ⟨_, rfl⟩
 have j1 : w4.grownBy w5 (some x5) := by rw [t0]; exact (Ad _ _ _ _).trans (Ad _ _ _ _)
 have t1 : OwnM w5 W.heap.size (sQ e0) l l K := g2.keptT j1 H5 (by decide) (by decide)
 have b1 : Blk w5 x5 #[nQ N, .slice (sQ e0) l l] := by rw [t0]; exact (HX.set 0 _).set 1 _
 have g1 : From W w5 := qac m1 j1 m1.size (fun k9 f0 => by simp only [qc] at f0; omega)
 rw [<- t0]
 clear t0 j1 x0 x1 y0 y1
 obtain ⟨a0, a1, a2, a3, a4⟩ := v0 w5 g1
 have x0 : w5.cell? ⟨x5, 0, none⟩ = some (nQ N) := b1.c0
 have x1 : w5.cell? ⟨x5, 1, none⟩ = some (.slice (sQ e0) l l) := b1.c1
 have n2 := sK t1
 have i0 := sK g1
 clear t1 b1 g1
 go_wp2_with (go_at_call 28; refine (o2 w5 (m0.trans (qf i0 (by omega))) _ l).mono ?_; rintro e w6 ⟨A6, c6, rfl, r2, w1, o0⟩; have b0 := l1.below (Aa o0 i0.out); have d0 := b0.free 0; have d1 := b0.free 1; have d2 := b0.free 2; have d3 := b0.free 3; have d4 := b0.free 4; have c0 : w6.cell? ⟨w.heap.size + 1, 0, none⟩ = some (zQ) := b0.c0; have c1 : w6.cell? ⟨w.heap.size + 1, 1, none⟩ = some (zQ) := b0.c1; have c2 : w6.cell? ⟨w.heap.size + 1, 2, none⟩ = some (eQ) := b0.c2; have c3 : w6.cell? ⟨w.heap.size + 1, 3, none⟩ = some (zQ) := b0.c3; have c4 : w6.cell? ⟨w.heap.size + 1, 4, none⟩ = some (eQ) := b0.c4)
 have b0 := l1.below (Aa o0 i0.out)
 have hE := ((((b0.set 0 (nQ F.p)).set 1 (nQ M)).set 2 (.slice A6 mL c6)).set 3 (nQ N)).set 4 (.slice (sQ e0) l l)
 obtain ⟨q0, q1, q2, q3, q4⟩ := hE.t5
 have k1 := ((((Ad w6 (w.heap.size + 1) 0 (nQ F.p)).trans (Ad _ (w.heap.size + 1) 1 (nQ M))).trans (Ad _ (w.heap.size + 1) 2 (.slice A6 mL c6))).trans (Ad _ (w.heap.size + 1) 3 (nQ N))).trans (Ad _ (w.heap.size + 1) 4 (.slice (sQ e0) l l))
 have hB := m0.trans (qf (Aa o0 i0.out) (by omega))
 have z2 := i0.size
 refine bodyPost_ret (v := .tuple #[.agg #[nQ F.p, nQ M, .slice A6 mL c6, nQ N, .slice (sQ e0) l l], zQ]) (by simp [results, Tryz.results10, go_sem, q0, q1, q2, q3, q4]) rfl ⟨A6, c6, _, rfl, r2.kept k1 (fun b l0 e h0 => by have := w1 b l0 e h0; omega), ((n2.below o0).kept k1 (by omega)).mono (by omega), hB.grown k1 hB.size (fun k9 f0 => by simp at f0; omega), fun b l0 e h0 => by have := w1 b l0 e h0; omega⟩
theorem Tw (w : WQ) (F : FD) (hF : F.Ok) (A : OQ) (c : Nat) (hmod : RdN w A (modL F).length c (modL F)) (m n c' : Nat) (B : OQ) (R : LQ) (hR : RdM w B n c' R) (hM : Mat F.fld m R) (hm0 : 0 < m) (hm9 : m <= 64) (hn9 : n <= 256) :
  cQ 58 #[Ax F A c, matV m B n c'] w (Ef F m (Bc F.fld R m).1 w) := by
 have i0 := fun (w' : WQ) (hb : Below w.heap.size w w') => Fm w' F hF A c (hmod.below hb) m n c' B R (hR.below hb) hM hm0 (by omega) hn9
 have l1 := fun (w' : WQ) => Pa w' m hm0 hm9
 have b0 := fun (w' : WQ) (hb : Below w.heap.size w w') (G : OQ) (l : Nat) => Xu w' F hF A c (hmod.below hb) m l l G
 have i1 := (Bn hF.fldOk hM).1.len
 unfold Lu at i0
 unfold Oi at b0
 unfold Ef
 have e1 : Ax F A c = .agg #[nQ F.p, .int .i64 ((F.m + 1 : Nat) : Int), .slice A (modL F).length c] := rfl
 have e2 : ∀ A c N B k cg, Dj F A c N B k cg = .agg #[nQ F.p, .int .i64 ((F.m + 1 : Nat) : Int), .slice A (modL F).length c, nQ N, .slice B k cg] := fun _ _ _ _ _ _ => rfl
 rw [i1]
 simp only [e2] at b0 ⊢
 rw [e1] at i0 b0 ⊢
 unfold matV at i0 b0 ⊢
 have y0 := sK i0
 have o1 := sK l1
 have s1 := sK b0
 clear i0 l1 b0 e1 e2 hmod hR hM i1
 generalize Bc F.fld R m = st at *
 obtain ⟨K, P⟩ := st
 simp only at y0 ⊢
 generalize P.length = l at *
 generalize (modL F).length = mL at *
 generalize F.m + 1 = M at *
 go_enter Tryz.func58, Tryz.ntmps58
 go_upto_region 1 with fail
 obtain ⟨W, hW⟩ := xQ (((w.alloc (.cells #[nQ F.p, nQ M, .slice A mL c] 24)).alloc (.cells #[nQ m, .slice B n c'] 52)).alloc (.cells #[zQ, zQ, eQ, zQ, eQ] 27))
 have w1 : W.heap.size = w.heap.size + 3 := by rw [hW]; simp
 have k1 : Below w.heap.size w W := by rw [hW]; exact (((bR).alloc (qb _) _).alloc (by simp) _).alloc (by simp; omega) _
 have h1 : Blk W w.heap.size #[nQ F.p, nQ M, .slice A mL c] := by rw [hW]; exact ((Blk.new _ _ _).alloc _).alloc _
 have g0 : Blk W (w.heap.size + 1) #[nQ m, .slice B n c'] := by
  rw [hW]; have h9 := (Blk.new (w.alloc (.cells #[nQ F.p, nQ M, .slice A mL c] 24)) #[nQ m, .slice B n c'] 52).alloc (.cells #[zQ, zQ, eQ, zQ, eQ] 27)
  rwa [qi] at h9
 have g1 : Blk W (w.heap.size + 1 + 1) #[zQ, zQ, eQ, zQ, eQ] := by
  rw [hW]; have h9 := Blk.new ((w.alloc (.cells #[nQ F.p, nQ M, .slice A mL c] 24)).alloc (.cells #[nQ m, .slice B n c'] 52)) #[zQ, zQ, eQ, zQ, eQ] 27
  rwa [qi, qi] at h9
 rw [<- hW]
 clear hW
 have a1 : Hid (∀ wx, From W wx -> wx.cell? ⟨w.heap.size, 0, none⟩ = some (nQ F.p) ∧ wx.cell? ⟨w.heap.size, 1, none⟩ = some (nQ M) ∧ wx.cell? ⟨w.heap.size, 2, none⟩ = some (.slice A mL c)) := sK fun wx hx =>
  have h9 := h1.below hx
  ⟨h9.c0, h9.c1, h9.c2⟩
 have b1 : Hid (∀ wx, From W wx -> wx.cell? ⟨w.heap.size + 1, 0, none⟩ = some (nQ m) ∧ wx.cell? ⟨w.heap.size + 1, 1, none⟩ = some (.slice B n c')) := sK fun wx hx =>
  have h9 := g0.below hx
  ⟨h9.c0, h9.c1⟩
 have z0 := sK g1
 have o0 := sK k1
 obtain ⟨f0, f1, f2⟩ := a1 W (From.refl W)
 obtain ⟨m0, m1⟩ := b1 W (From.refl W)
 clear h1 g0 g1 k1
 go_upto_region 3 with (go_at_call 117; refine (y0 W o0.out).mono ?_; rintro e w2 ⟨g, P1, pc, rfl, j1, t1, t0⟩)
 obtain ⟨w3, j0⟩ : ∃ x, x = w2.alloc (.cells #[nQ m, .slice (sQ g) l l] 52) := ⟨_, rfl⟩
 have r0 : Blk w3 w2.heap.size #[nQ m, .slice (sQ g) l l] := by rw [j0]; exact Blk.new _ _ _
 have l0 : From W w3 := by rw [j0]; exact Below.alloc t0 t0.size _
 have g0 : OwnM w3 W.heap.size (sQ g) l l K := by rw [j0]; exact j1.below (Ac _ _)
 rw [<- j0]
 clear j0 j1 t1 f0 f1 f2 m0 m1
 obtain ⟨f0, f1, f2⟩ := a1 w3 l0
 obtain ⟨m0, m1⟩ := b1 w3 l0
 have x0 : w3.cell? ⟨w2.heap.size, 0, none⟩ = some (nQ m) := r0.c0
 have x1 : w3.cell? ⟨w2.heap.size, 1, none⟩ = some (.slice (sQ g) l l) := r0.c1
 have r1 := sK g0
 have e0 := sK l0
 clear r0 g0 l0 t0
 go_wp2_with (first | (go_at_call 52; refine (o1 w3).mono ?_; rintro e z1 ⟨rfl, rfl⟩) | (go_at_call 28; refine (s1 w3 (o0.trans (qf e0 (by omega))) _ l).mono ?_; rintro e w6 ⟨A6, c6, rfl, v1, n1, n0⟩; have a0 := z0.below (Aa n0 e0.out); have d0 := a0.free 0; have d1 := a0.free 1; have d2 := a0.free 2; have d3 := a0.free 3; have d4 := a0.free 4; have c0 : w6.cell? ⟨w.heap.size + 1 + 1, 0, none⟩ = some (zQ) := a0.c0; have c1 : w6.cell? ⟨w.heap.size + 1 + 1, 1, none⟩ = some (zQ) := a0.c1; have c2 : w6.cell? ⟨w.heap.size + 1 + 1, 2, none⟩ = some (eQ) := a0.c2; have c3 : w6.cell? ⟨w.heap.size + 1 + 1, 3, none⟩ = some (zQ) := a0.c3; have c4 : w6.cell? ⟨w.heap.size + 1 + 1, 4, none⟩ = some (eQ) := a0.c4))
 have a0 := z0.below (Aa n0 e0.out)
 have hE := ((((a0.set 0 (nQ F.p)).set 1 (nQ M)).set 2 (.slice A6 mL c6)).set 3 (nQ m)).set 4 (.slice (sQ g) l l)
 obtain ⟨q0, q1, q2, q3, q4⟩ := hE.t5
 have v0 := ((((Ad w6 (w.heap.size + 1 + 1) 0 (nQ F.p)).trans (Ad _ (w.heap.size + 1 + 1) 1 (nQ M))).trans (Ad _ (w.heap.size + 1 + 1) 2 (.slice A6 mL c6))).trans (Ad _ (w.heap.size + 1 + 1) 3 (nQ m))).trans (Ad _ (w.heap.size + 1 + 1) 4 (.slice (sQ g) l l))
 have hB := o0.trans (qf (Aa n0 e0.out) (by omega))
 have y1 := e0.size
 refine bodyPost_ret (v := .tuple #[.agg #[nQ F.p, nQ M, .slice A6 mL c6, nQ m, .slice (sQ g) l l], zQ]) (by simp [results, Tryz.results58, go_sem, q0, q1, q2, q3, q4]) rfl ⟨A6, c6, _, rfl, v1.kept v0 (fun b w0 e h0 => by have := n1 b w0 e h0; omega), ((r1.below n0).kept v0 (by omega)).mono (by omega), hB.grown v0 hB.size (fun k9 u1 => by simp at u1; omega), fun b w0 e h0 => by have := n1 b w0 e h0; omega⟩
theorem Zk (w : WQ) (b : Nat) (F : FD) (hG : GFat w b F) : cQ 164 #[pQ b] w (Me F w) := by
 obtain ⟨i0, hi, m1, n1, o1⟩ := info_parts Bj
 have t1 : (modL F).length <= 1000 := by have := Fp F; have := hG.ok.bd; split at * <;> omega
 unfold Me
 have e1 : ∀ A c, Ax F A c = .agg #[nQ F.p, .int .i64 ((F.m + 1 : Nat) : Int), .slice A (modL F).length c] := fun _ _ => rfl
 simp only [e1]
 obtain ⟨A, c, y0, a1⟩ := hG.cmod
 have hC : ∀ wx, From w wx -> wx.cell? ⟨b, 0, none⟩ = some (nQ F.p) ∧ wx.cell? ⟨b, 1, none⟩ = some (.int .i64 ((F.m + 1 : Nat) : Int)) ∧ wx.cell? ⟨b, 2, none⟩ = some (.slice A (modL F).length c) ∧ RdN wx A (modL F).length c (modL F) := fun wx hx =>
  ⟨(hx.cell (p := ⟨b, 0, none⟩) hG.lt).trans hG.cp, (hx.cell (p := ⟨b, 1, none⟩) hG.lt).trans hG.cm, (hx.cell (p := ⟨b, 2, none⟩) hG.lt).trans y0, a1.below hx⟩
 have HC := sK hC
 have s1 := hG.lt
 clear hC e1 y0 a1 hG
 generalize (modL F).length = mL at *
 generalize F.m + 1 = M at *
 go_enter Tryz.func164, Tryz.ntmps164
 go_upto_region 1 with fail
 obtain ⟨W, hW⟩ := xQ (w.alloc (.cells #[zQ, zQ, eQ] 24))
 have r1 : W.heap.size = w.heap.size + 1 := by rw [hW]; simp
 have x0 : Below w.heap.size w W := by rw [hW]; exact Ac _ _
 have w0 : Blk W w.heap.size #[zQ, zQ, eQ] := by rw [hW]; exact Blk.new _ _ _
 rw [<- hW]
 clear hW
 have f1 := sK w0
 have HW : Hid (∀ wx, From W wx -> From w wx) := sK fun wx hx => x0.trans (qf hx (by omega))
 have g1 : From W W := From.refl W
 clear w0 x0
 refine wpT 18 21 [.v (pQ b), .v (pQ b), .v (pQ b), .v (pQ b), .v (nQ F.p), .v (pQ b), .v (pQ b), .v (pQ b), .v (.pointer (some ⟨b, 1, none⟩)), .v (nQ M), .r (Kr) Kr.lasting, .v (pQ b), .v (pQ b), .v (pQ b), .v (.pointer (some ⟨b, 2, none⟩)), .v (.slice A mL c), .r (On W.heap.size mL (modL F)) On.lasting, .r (Pg W.heap.size F mL M) Pg.lasting] W (by kernel_rfl) (by kernel_rfl) (by kernel_rfl) rfl (From.drew g1) ?_
 simp only [Tk]
 iterate 10 (refine .z (fun wx hx _ hK => by first | (go_simp; exact Kz hK) | (obtain ⟨i1, j1, k1, _⟩ := HC wx (HW wx hx); go_simp; exact Kz hK)) ?_; simp only [Pt])
 refine .r (fun wx hx hd KK hK => ?_) (fun v1 => ?_)
 ·clear hd
  go_simp; exact hK.out _ _ ⟨_, rfl⟩ (Ac _ _)
 simp only [Pt]
 iterate 5 (refine .z (fun wx hx _ hK => by first | (go_simp; exact Kz hK) | (obtain ⟨i1, j1, k1, _⟩ := HC wx (HW wx hx); go_simp; exact Kz hK)) ?_; simp only [Pt])
 refine .r (fun wx hx hd KK hK => ?_) (fun w1 => ?_)
 ·obtain ⟨t0, rfl⟩ := hd _ (.head _) (by kernel_rfl)
  clear hd; refine Hg rfl _ _ 22 rfl i0 Tryz.underlying22 hi m1 n1 o1 t0 rfl A mL c (modL F) rfl (HC wx (HW wx hx)).2.2.2 (by omega) ?_; intro A' c' w' h' l1 h1; exact hK.out _ _ ⟨A', c', rfl, h', fun b9 u1 e9 h9 => by obtain ⟨g8, e8, h8, _⟩ := (l1 h9).block h9; rw [e9] at e8; simp only [qc, qd] at e8; have := hx.size; omega⟩ h1
 simp only [Pt]
 refine .r (fun wx hx hd KK hK => ?_) (fun x1 => ?_)
 ·obtain ⟨m0, r0, rfl, f0, j0⟩ := hd _ (.head _) (by kernel_rfl)
  clear hd; go_simp; exact hK.out _ _ ⟨m0, r0, rfl, f0, j0⟩ (bR)
 simp only [Pt]
 refine .nil fun w3 g0 hd => ?_
 obtain ⟨t0, rfl⟩ := hd _ (.tail _ (.tail _ (.head _)))
 obtain ⟨m0, r0, rfl, f0, j0⟩ := hd _ (.tail _ (.head _))
 obtain ⟨b0, e0, rfl, v0, b1⟩ := hd _ (.head _)
 clear hd
 have a0 := f1.below g0
 have d0 := a0.free 0
 have d1 := a0.free 1
 have d2 := a0.free 2
 have c0 : w3.cell? ⟨w.heap.size, 0, none⟩ = some (zQ) := a0.c0
 have c1 : w3.cell? ⟨w.heap.size, 1, none⟩ = some (zQ) := a0.c1
 have c2 : w3.cell? ⟨w.heap.size, 2, none⟩ = some (eQ) := a0.c2
 have HD := sK a0
 have o0 := sK (HW w3 g0)
 have n0 := sK b1
 have HR := sK v0
 clear a0 g0 b1 v0 f0 j0
 go_wp2
 have hE := ((HD.set 0 (nQ F.p)).set 1 (nQ M)).set 2 (.slice b0 mL e0)
 obtain ⟨q0, q1, q2⟩ := hE.t3
 have z0 : w3.grownBy (((w3.setCell ⟨w.heap.size, 0, none⟩ (nQ F.p)).setCell ⟨w.heap.size, 1, none⟩ (nQ M)).setCell ⟨w.heap.size, 2, none⟩ (.slice b0 mL e0)) (some w.heap.size) := ((Ad _ _ _ _).trans (Ad _ _ _ _)).trans (Ad _ _ _ _)
 refine bodyPost_ret (v := .agg #[nQ F.p, nQ M, .slice b0 mL e0]) (by simp [results, Tryz.results164, go_sem, q0, q1, q2]) rfl ⟨b0, e0, rfl, HR.kept z0 (fun b l0 e h0 => by have := n0 b l0 e h0; omega), fun b l0 e h0 => by have := n0 b l0 e h0; omega, qac o0 z0 (Below.size o0.out) (fun k hk => by simp at hk; omega)⟩
theorem Us (w : WQ) (b : Nat) (F : FD) (hG : GFat w b F) (x : Nat) (hx : x < F.q) : cQ 111 #[pQ b, iv x] w (RetN (F.m + 1) (digs F.p (F.m + 1) x) w) := by
 have l0 := hG.ok.bd
 have hC : ∀ wx, From w wx -> wx.cell? ⟨b, 0, none⟩ = some (nQ F.p) ∧ wx.cell? ⟨b, 1, none⟩ = some (.int .i64 ((F.m + 1 : Nat) : Int)) := fun wx hx =>
  ⟨(hx.cell (p := ⟨b, 0, none⟩) hG.lt).trans hG.cp, (hx.cell (p := ⟨b, 1, none⟩) hG.lt).trans hG.cm⟩
 have HC := sK hC
 have f0 := fun (wx : WQ) (h9 : From w wx) => Ka wx b F (hG.below h9) x hx
 have g0 := sK f0
 have e0 := fun (wx : WQ) => Ih wx x F.p (F.m + 1) (by omega) (by omega) (by omega) (by omega)
 have b0 := sK e0
 clear hC f0 e0 hG hx
 unfold iv at *
 unfold RetN at b0 ⊢
 generalize digs F.p (F.m + 1) x = D at *
 generalize F.m + 1 = M at *
 go_enter Tryz.func111, Tryz.ntmps111
 go_upto_region 1 with fail
 have h0 : From w w := From.refl w
 refine wpT 15 19 [.v (pQ b), .v (nQ x), .v (nQ x), .v (pQ b), .v (pQ b), .v (pQ b), .v (pQ b), .v (nQ F.p), .v (pQ b), .v (pQ b), .v (pQ b), .v (.pointer (some ⟨b, 1, none⟩)), .v (nQ M), .r (Gs w.heap.size M D) Gs.lasting, .r (Gs w.heap.size M D) Gs.lasting] w (by kernel_rfl) (by kernel_rfl) (by kernel_rfl) rfl (From.drew h0) ?_
 simp only [Tk]
 iterate 13 (refine .z (fun wx hx _ hK => by first | (go_simp; exact Kz hK) | (go_simp; refine (g0 wx hx).mono ?_; rintro e w' ⟨rfl, rfl⟩; exact Kz hK) | (obtain ⟨m0, n0⟩ := HC wx hx; go_simp; exact Kz hK)) ?_; simp only [Pt])
 refine .r (fun wx hx hd KK hK => ?_) (fun o0 => ?_)
 ·clear hd
  go_simp; refine (b0 wx).mono ?_; rintro e w' ⟨A', c', rfl, ho, i0⟩; exact hK.out _ _ ⟨A', c', rfl, ho.mono hx.size⟩ i0
 simp only [Pt]
 refine .r (fun wx hx hd KK hK => ?_) (fun v4 => ?_)
 ·obtain ⟨a0, c0, rfl, d0⟩ := hd _ (.head _) (by kernel_rfl)
  clear hd; go_simp; exact hK.out _ _ ⟨a0, c0, rfl, d0⟩ (bR)
 simp only [Pt]
 refine .nil fun w3 j0 hd => ?_
 obtain ⟨a0, c0, rfl, d0⟩ := hd _ (.tail _ (.head _))
 obtain ⟨A4, c4, rfl, h4⟩ := hd _ (.head _)
 clear hd
 go_wp2
 go_ret
 exact ⟨_, _, rfl, h4, j0⟩
theorem Jm (w : WQ) (b : Nat) (F : FD) (hG : GFat w b F) : cQ 105 #[pQ b] w (Ah (.tuple #[nQ F.p, .int .i64 ((F.m + 1 : Nat) : Int)]) w) := by
 have hf := Zk w b F hG
 unfold Me at hf
 have e1 : ∀ A c, Ax F A c = .agg #[nQ F.p, .int .i64 ((F.m + 1 : Nat) : Int), .slice A (modL F).length c] := fun _ _ => rfl
 simp only [e1] at hf
 have HF := sK hf
 clear hf e1 hG
 generalize (modL F).length = mL at *
 generalize F.m + 1 = M at *
 go_enter Tryz.func105, Tryz.ntmps105
 go_upto_region 2 with (go_at_call 164; refine HF.mono ?_; rintro e w2 ⟨A, c, rfl, _, _, d0⟩)
 obtain ⟨W, hW⟩ := xQ (w2.alloc (.cells #[nQ F.p, nQ M, .slice A mL c] 24))
 have a0 : Blk W w2.heap.size #[nQ F.p, nQ M, .slice A mL c] := by rw [hW]; exact Blk.new _ _ _
 have b0 : Below w.heap.size w W := by rw [hW]; exact d0.alloc d0.size _
 rw [<- hW]
 clear hW
 have HC : Hid (∀ wx, From W wx -> wx.cell? ⟨w2.heap.size, 0, none⟩ = some (nQ F.p) ∧ wx.cell? ⟨w2.heap.size, 1, none⟩ = some (nQ M)) := sK fun wx hx =>
  ⟨(a0.below hx).c0, (a0.below hx).c1⟩
 have e0 := sK b0
 have g0 := b0.size
 have f0 : From W W := From.refl W
 clear a0 b0 d0
 refine wpT 6 11 [.v (pQ w2.heap.size), .v (nQ F.p), .v (.pointer (some ⟨w2.heap.size, 1, none⟩)), .v (nQ M), .v (nQ F.p), .v (nQ M)] W (by kernel_rfl) (by kernel_rfl) (by kernel_rfl) rfl (From.drew f0) ?_
 simp only [Tk]
 iterate 6 (refine .z (fun wx hx _ hK => by first | (go_simp; exact Kz hK) | (obtain ⟨i0, j0⟩ := HC wx hx; go_simp; exact Kz hK)) ?_; simp only [Pt])
 refine .nil fun w3 h0 _ => ?_
 go_wp2
 go_ret2
 exact ⟨rfl, e0.trans (qf h0 g0)⟩
theorem Ey (w : WQ) (b : Nat) (F : FD) (hG : GFat w b F) (d : Nat) (hd0 : 0 < d) (hd : (F.m + 1) % d = 0) : cQ 106 #[pQ b, nQ d] w (Ah (.bool true) w) := by
 have hp := Jm w b F hG
 have c0 := hG.bd
 have HP := sK hp
 obtain ⟨M, hM⟩ := xQ (F.m + 1)
 rw [<- hM] at HP hd
 have d0 : M <= 8 := by omega
 have b0 : 0 < M := by omega
 have e0 : d <= M := qaz b0 (Vq hd)
 have hr := Cg M d
 rw [hd] at hr
 have h1 : (1 : Int) <= (d : Int) := by omega
 have h2 : (d : Int) <= (M : Int) := by omega
 have h3 : ¬ (d : Int) = 0 := by omega
 clear hp hG hM hd c0
 go_enter Tryz.func106, Tryz.ntmps106
 go_upto_region 2 with (go_at_call 105; refine HP.mono ?_; rintro e w2 ⟨rfl, a0⟩)
 have HB := sK a0
 clear a0
 go_wp2
 go_ret
 exact ⟨rfl, HB.out⟩
section
namespace Fq
def ev (F : FD) (r : Nat) : NQ -> Nat
 | [] => 0
 | c :: t => F.add c (F.mul r (ev F r t))
theorem Xj (p : Nat) : ∀ d a, digs p (d + 1) a = digs p d a ++ [a / p ^ d % p]
 | 0, a => by simp [digs]
 | d + 1, a => by
  rw [digs, Xj p d (a / p), digs, qba]; rw [qah, qr, qw p]
theorem Pn {p : Nat} : ∀ m x, digs p m (x % p ^ m) = digs p m x
 | 0, _ => rfl
 | m + 1, x => by
  have h1 : x % p ^ (m + 1) % p = x % p := by rw [qr]; exact Nat.mod_mod_of_dvd x (qcs p (p ^ m))
  have h2 : x % p ^ (m + 1) / p = x / p % p ^ m := by rw [qr, qw, qbs]
  rw [digs, digs, h1, h2, Pn m]
theorem Th {p : Nat} (n : Nat) : digs p n 0 = List.replicate n 0 := by
 induction n with
 | zero => rfl
 | succ n ih => rw [digs, qcc, Nat.zero_div, ih, qdb]
section
variable {F : FD} (h : F.Ok)
include h
theorem FD.Ok.p_le_q : F.p <= F.q := by
 have := h.p2
 have h5 : F.p ^ 1 <= F.p ^ (F.m + 1) := qy (by omega) (by omega)
 rw [qbk] at h5
 exact h5
omit h in
theorem FD.small_add {a b : Nat} (ha : a < F.p) (hb : b < F.p) : F.add a b = (a + b) % F.p := by
 unfold FD.add
 rw [padd, Bq ha, Bq hb, qag ha, qag hb, Tl]; rfl
theorem FD.Ok.small_smul (k : Nat) {c : Nat} (hc : c < F.p) : smul F.p (F.m + 1) k c = k * c % F.p := by
 rw [smul, Bq hc, qag hc, Fh h.p0]; rfl
theorem FD.Ok.mul_small {x c : Nat} (_hx : x < F.q) (hc : c < F.p) : F.mul x c = smul F.p (F.m + 1) c x := by
 unfold FD.mul Fq.mul
 rw [hmul, qag hc, Bq hc, Gh h.p1, (Gp h.p0 F.v).zero h.p0, Gi h.p0 (Dl h.p0 _ _ _)]
theorem FD.Ok.smul_mul (k : Nat) {r x : Nat} (hx : x < F.q) : F.mul r (smul F.p (F.m + 1) k x) = smul F.p (F.m + 1) k (F.mul r x) :=
 Add.smul h.p0 (f := fun y => F.mul r y) ⟨fun y _ => h.mul_lt r y, fun y z _ _ => Fq.mul_add h.p1 r y z⟩ hx k
theorem FD.Ok.ev_lt (r : Nat) (l : NQ) : ev F r l < F.q := by
 cases l with
 | nil => have := h.q2; show 0 < F.q; omega
 | cons c t => exact h.add_lt _ _
theorem FD.Ok.zero_or {x y : Nat} (hx : x < F.q) (hy : y < F.q) (h0 : x ≠ 0) (e : F.mul x y = 0) : y = 0 := by
 have h1 := h.mul_inv hx h0
 have hi : F.inv x < F.q := h.pw_lt _ _
 have h2 : F.mul (F.inv x) (F.mul x y) = F.mul (F.inv x) 0 := by rw [e]
 rw [<- h.mul_assoc hi hx hy, h.mul_comm hi hx, h1, h.one_mul hy, h.mul_zero] at h2
 exact h2
theorem FD.Ok.ev_zeros (r n : Nat) : ev F r (List.replicate n 0) = 0 := by
 have hq := h.q2
 induction n with
 | zero => rfl
 | succ n ih =>
  rw [qdb, ev, ih, h.mul_zero]; exact h.fldOk.add0 0 (by show 0 < F.q; omega)
theorem FD.Ok.ev_snoc {r c : Nat} (hr : r < F.q) (hc : c < F.q) : ∀ l : NQ, (∀ x ∈ l, x < F.q) -> ev F r (l ++ [c]) = F.add (ev F r l) (F.mul (F.pw r l.length) c)
 | [], _ => by
  have hq := h.q2; show F.add c (F.mul r 0) = F.add 0 (F.mul 1 c); rw [h.mul_zero, h.one_mul hc]; exact Cj _ _ _
 | x :: l, hl => by
  have o := h.fldOk; have hx := hl x (by simp); have hp := h.pw_lt r l.length; have e1 : F.mul r (F.mul (F.pw r l.length) c) = F.mul (F.mul (F.pw r l.length) r) c := by
   rw [<- h.mul_assoc hr hp hc, h.mul_comm hr hp]
  show F.add x (F.mul r (ev F r (l ++ [c]))) = F.add (F.add x (F.mul r (ev F r l))) (F.mul (F.mul (F.pw r l.length) r) c); rw [FD.Ok.ev_snoc hr hc l fun y hy => hl y (by simp [hy])]; have e2 : F.mul r (F.add (ev F r l) (F.mul (F.pw r l.length) c)) = F.add (F.mul r (ev F r l)) (F.mul r (F.mul (F.pw r l.length) c)) := Fq.mul_add h.p1 _ _ _; rw [e2, e1]; exact (o.addA _ _ _ hx (h.mul_lt _ _) (h.mul_lt _ _)).symm
theorem FD.Ok.ev_padd (r : Nat) : ∀ n a b, ev F r (digs F.p n (padd F.p n a b)) = F.add (ev F r (digs F.p n a)) (ev F r (digs F.p n b))
 | 0, a, b => (h.fldOk.add0 0 (by have := h.q2; show 0 < F.q; omega)).symm
 | n + 1, a, b => by
  have hp := h.p0; have c0 := h.p_le_q; have ha := qu a hp; have hb := qu b hp; have o := h.fldOk; rw [digs, Dr hp, Dn hp, digs, digs, ev, ev, ev, FD.Ok.ev_padd r n, <- FD.small_add ha hb]; have e2 : F.mul r (F.add (ev F r (digs F.p n (a / F.p))) (ev F r (digs F.p n (b / F.p)))) = F.add (F.mul r (ev F r (digs F.p n (a / F.p)))) (F.mul r (ev F r (digs F.p n (b / F.p)))) := Fq.mul_add h.p1 _ _ _; rw [e2]; exact o.add4 (show _ < F.q by omega) (show _ < F.q by omega) (h.mul_lt _ _) (h.mul_lt _ _)
theorem FD.Ok.ev_smul (r k : Nat) : ∀ n a, ev F r (digs F.p n (smul F.p n k a)) = smul F.p (F.m + 1) k (ev F r (digs F.p n a))
 | 0, a => by show 0 = _; rw [digs, ev, Fh h.p0]
 | n + 1, a => by
  have hp := h.p0; have ha := qu a hp; rw [digs, Ja hp, Kx hp, digs, ev, ev, FD.Ok.ev_smul r k n, <- h.small_smul k ha, h.smul_mul k (h.ev_lt _ _)]; exact (Jc hp _ _ _ _).symm
theorem FD.Ok.smul_p {k : Nat} (hk : k <= F.p) (x : Nat) : F.add (smul F.p (F.m + 1) k x) (smul F.p (F.m + 1) (F.p - k) x) = 0 := by
 unfold FD.add
 rw [<- El h.p0, show k + (F.p - k) = F.p by omega, Fq.rE h.p0]
theorem FD.Ok.ev_mX {r d v a : Nat} (hr : r < F.q) (ha : a < F.p ^ (d + 1)) :
  ev F r (digs F.p (d + 1) (mX F.p d v a)) = F.add (F.mul r (ev F r (digs F.p (d + 1) a))) (smul F.p (F.m + 1) (F.p - a / F.p ^ d) (ev F r (digs F.p (d + 1) v ++ [1]))) := by
 have hp := h.p0
 have hq := h.q2
 have c0 := h.p_le_q
 have o := h.fldOk
 have ht : a / F.p ^ d < F.p := by rw [qaq (Eb hp d), qw, <- qr]; exact ha
 have f0 : ∀ n x, ∀ y ∈ digs F.p n x, y < F.q := fun n x y hy => by have := Dy hp n x y hy; omega
 have z0 : ∀ x, x < F.q -> F.add 0 x = x := fun x hx => o.zadd hx
 have aA : ∀ x y z, x < F.q -> y < F.q -> z < F.q -> F.add (F.add x y) z = F.add x (F.add y z) := o.addA
 have aC : ∀ x y, x < F.q -> y < F.q -> F.add x y = F.add y x := o.addC
 have mD : ∀ x y z, F.mul x (F.add y z) = F.add (F.mul x y) (F.mul x z) := fun x y z => Fq.mul_add h.p1 x y z
 rw [h.ev_snoc hr (by omega) _ (f0 _ _), Cb, h.mul_one (h.pw_lt _ _), mX, h.ev_padd, h.ev_smul]
 rw [Xj F.p d a, h.ev_snoc hr (by have := qu (a / F.p ^ d) hp; omega) _ (f0 _ _), Cb, Bq ht]
 rw [digs, qat, qab _ hp, Pn, ev, z0 _ (h.mul_lt _ _), mD]
 have d0 := h.pw_lt r d
 have e1 : F.mul r (F.mul (F.pw r d) (a / F.p ^ d)) = smul F.p (F.m + 1) (a / F.p ^ d) (F.pw r (d + 1)) := by
  rw [h.mul_small d0 ht, h.smul_mul _ d0, h.mul_comm hr d0]; rfl
 have e2 : smul F.p (F.m + 1) (F.p - a / F.p ^ d) (F.add (ev F r (digs F.p (d + 1) v)) (F.pw r (d + 1))) = F.add (smul F.p (F.m + 1) (F.p - a / F.p ^ d) (ev F r (digs F.p (d + 1) v))) (smul F.p (F.m + 1) (F.p - a / F.p ^ d) (F.pw r (d + 1))) := Jc hp _ _ _ _
 rw [e1, e2]
 have e3 := h.smul_p (k := a / F.p ^ d) (by omega) (F.pw r (d + 1))
 have sl : ∀ k x, smul F.p (F.m + 1) k x < F.q := fun k x => Dl hp _ _ _
 rw [aC (smul F.p (F.m + 1) (F.p - a / F.p ^ d) (ev F r (digs F.p (d + 1) v))) _ (sl _ _) (sl _ _), aA _ _ _ (h.mul_lt _ _) (sl _ _) (h.add_lt _ _), <- aA _ _ _ (sl _ _) (sl _ _) (sl _ _), e3, z0 _ (sl _ _)]
end
def phi (F S : FD) (r a : Nat) : Nat := ev F r (digs S.p (S.m + 1) a)
structure Root (F S : FD) (r : Nat) : Prop where
 lt : r < F.q
 p : S.p = F.p
 zero : ev F r (digs S.p (S.m + 1) S.v ++ [1]) = 0
section
variable {F S : FD} (h : F.Ok) (hS : S.Ok) {r : Nat} (hr : Root F S r)
include h hr
omit hr in
theorem Ml (S : FD) (r a : Nat) : phi F S r a < F.q := h.ev_lt _ _
theorem Nx (a b : Nat) : phi F S r (S.add a b) = F.add (phi F S r a) (phi F S r b) := by
 unfold phi FD.add; rw [hr.p]; exact h.ev_padd r _ a b
theorem rM {a : Nat} (ha : a < S.q) : phi F S r (mX S.p S.m S.v a) = F.mul r (phi F S r a) := by
 have e := hr.zero
 unfold FD.q at ha
 unfold phi; rw [hr.p] at *; rw [h.ev_mX hr.lt ha, e, Fh h.p0]; exact h.fldOk.add0 _ (h.mul_lt _ _)
include hS in
theorem Vw {x : Nat} : ∀ n y, phi F S r (hmul S.p S.m S.v x n y) = F.mul (phi F S r x) (ev F r (digs S.p n y))
 | 0, y => by
  show phi F S r 0 = F.mul (phi F S r x) 0; rw [h.mul_zero]; unfold phi; rw [Th, h.ev_zeros]
 | n + 1, y => by
  have hp := h.p0; have c0 := h.p_le_q; have o := h.fldOk; have hx := Ml h S r x; have hE := h.ev_lt r (digs S.p n (y / S.p)); have hy : y % S.p < F.p := by rw [hr.p]; exact qu _ hp
  have e1 := Nx h hr (mX S.p S.m S.v (hmul S.p S.m S.v x n (y / S.p))) (smul S.p (S.m + 1) (y % S.p) x); unfold FD.add at e1; rw [hmul, e1, rM h hr (Hc hS.p1 _ _ _), Vw n (y / S.p), digs, ev]; have e2 : phi F S r (smul S.p (S.m + 1) (y % S.p) x) = smul F.p (F.m + 1) (y % S.p) (phi F S r x) := by
   unfold phi; rw [hr.p]; exact h.ev_smul _ _ _ _
  have e3 : F.mul (phi F S r x) (F.add (y % S.p) (F.mul r (ev F r (digs S.p n (y / S.p))))) = F.add (F.mul (phi F S r x) (y % S.p)) (F.mul (phi F S r x) (F.mul r (ev F r (digs S.p n (y / S.p))))) := Fq.mul_add h.p1 _ _ _; have e4 : F.mul r (F.mul (phi F S r x) (ev F r (digs S.p n (y / S.p)))) = F.mul (phi F S r x) (F.mul r (ev F r (digs S.p n (y / S.p)))) := by
   rw [<- h.mul_assoc hr.lt hx hE, h.mul_comm hr.lt hx, h.mul_assoc hx hr.lt hE]
  rw [e2, e3, e4, h.mul_small hx hy]; exact Cj _ _ _
include hS in
theorem Oc (x y : Nat) : phi F S r (S.mul x y) = F.mul (phi F S r x) (phi F S r y) := Vw h hS hr (S.m + 1) y
omit hr in
theorem Hz : phi F S r 0 = 0 := by unfold phi; rw [Th, h.ev_zeros]
theorem gX {c : Nat} (hc : c < F.p) : phi F S r c = c := by
 have c0 := h.p_le_q
 unfold phi
 rw [hr.p, digs, Bq hc, qag hc, Th, ev, h.ev_zeros, h.mul_zero]
 exact h.fldOk.add0 _ (show c < F.q by omega)
theorem dC : phi F S r 1 = 1 := gX h hr h.p1
include hS in
theorem Sl {a : Nat} : ∀ n, phi F S r (S.pw a n) = F.pw (phi F S r a) n
 | 0 => dC h hr
 | n + 1 => by
  show phi F S r (S.mul (S.pw a n) a) = F.mul (F.pw (phi F S r a) n) (phi F S r a); rw [Oc h hS hr, Sl n]
include hS in
theorem mT {a : Nat} (ha : a < S.q) (h0 : a ≠ 0) : phi F S r a ≠ 0 := by
 intro e
 have e1 := Oc h hS hr a (S.inv a)
 rw [hS.mul_inv ha h0, dC h hr, e, h.zero_mul] at e1
 omega
theorem cJ (a : Nat) (ha : a < S.q) (hS : S.Ok) : phi F S r (S.neg a) = F.neg (phi F S r a) := by
 have o := h.fldOk
 have e := Nx h hr a (S.neg a)
 have e1 : S.add a (S.neg a) = 0 := hS.fldOk.addN a ha
 rw [e1, Hz h] at e
 have hx := Ml h S r a
 have hy := Ml h S r (S.neg a)
 refine o.cancel (x := phi F S r a) hx hy (h.neg_lt _) ?_
 exact e.symm.trans (o.addN _ hx).symm
include hS in
theorem pS {a b : Nat} (ha : a < S.q) (hb : b < S.q) (e : phi F S r a = phi F S r b) : a = b := by
 have oS := hS.fldOk
 have e1 := Nx h hr a (S.neg b)
 rw [cJ h hr b hb hS, e] at e1
 have e2 : F.add (phi F S r b) (F.neg (phi F S r b)) = 0 := h.fldOk.addN _ (Ml h S r b)
 rw [e2] at e1
 have hd : S.add a (S.neg b) < S.q := hS.add_lt _ _
 have e3 : S.add a (S.neg b) = 0 := by
  by_cases h0 : S.add a (S.neg b) = 0
  ·exact h0
  ·exact absurd e1 (mT h hS hr hd h0)
 have e4 : S.add (S.neg b) a = S.add (S.neg b) b := by
  have c1 : S.add (S.neg b) a = S.add a (S.neg b) := Cj _ _ _; have c2 : S.add (S.neg b) b = 0 := oS.nadd hb; rw [c1, e3, c2]
 exact oS.cancel (x := S.neg b) (hS.neg_lt _) ha hb e4
end
theorem FD.Ok.pw_q {F : FD} (h : F.Ok) {a : Nat} (ha : a < F.q) : F.pw a F.q = a := by
 have hq := h.q2
 by_cases h0 : a = 0
 ·subst h0
  obtain ⟨k, hk⟩ : ∃ k, F.q = k + 1 := ⟨F.q - 1, by omega⟩
  rw [hk]; exact h.mul_zero _
 ·obtain ⟨i, hi, rfl⟩ := h.log ha h0
  have e : F.pw (F.pw F.x i) (F.q - 1) = 1 := by rw [<- h.pw_mul _ _ h.xq, qw, h.pw_mul _ _ h.xq, h.ord, h.pw_one]
  have e2 := h.pw_add (F.pw F.x i) (F.q - 1) ha 1; rw [show F.q - 1 + 1 = F.q by omega, e, h.pw_1 ha, h.one_mul ha] at e2; exact e2
theorem gO {F S : FD} (h : F.Ok) (hS : S.Ok) {r : Nat} (hr : Root F S r) {a : Nat} (ha : a < S.q) : F.pw (phi F S r a) S.q = phi F S r a := by
 rw [<- Sl h hS hr, hS.pw_q ha]
theorem qJ {l1 : NQ} : ∀ (l2 : NQ), l1.Nodup -> (∀ x ∈ l1, x ∈ l2) -> l2.length <= l1.length -> ∀ x ∈ l2, x ∈ l1 := by
 induction l1 with
 | nil => intro l2 _ _ hl x hx; cases l2 with | nil => exact hx | cons a l => simp at hl
 | cons a l ih =>
  intro l2 hd hs hl x hx
  by_cases e : x = a
  ·rw [e]; simp
  ·have ha : a ∈ l2 := hs a (by simp)
   have g0 := qdf.1 hd; have m0 : (l2.erase a).length = l2.length - 1 := List.length_erase_of_mem ha; have := ih (l2.erase a) g0.2 (fun y hy => (List.mem_erase_of_ne (fun e => g0.1 (by rw [<- e]; exact hy))).2 (hs y (by simp [hy]))) (by simp at hl; omega) x ((List.mem_erase_of_ne e).2 hx); simp [this]
theorem Nb (p D : Nat) (hp : 0 < p) : ∀ k, p ^ D - 1 ∣ p ^ (D * k) - 1
 | 0 => by simp
 | k + 1 => by
  have h1 := Nb p D hp k; have h2 : 0 < p ^ (D * k) := qbd hp; have h3 : 0 < p ^ D := qbd hp; have e : p ^ (D * (k + 1)) - 1 = p ^ (D * k) * (p ^ D - 1) + (p ^ (D * k) - 1) := by
   rw [qco, Nat.pow_add, Nat.mul_sub, qbw]; have h4 : p ^ (D * k) * 1 <= p ^ (D * k) * p ^ D := qbg _ h3; rw [qbw] at h4; omega
  rw [e]; exact Nat.dvd_add (qcs _ _) h1
def fixL (F : FD) (Q : Nat) : NQ := 0 :: (List.range (Q - 1)).map fun i => F.pw F.x ((F.q - 1) / (Q - 1) * i)
section
variable {F : FD} (h : F.Ok) {Q : Nat} (hQ : 2 <= Q) (hd : Q - 1 ∣ F.q - 1)
include h hQ hd
theorem Un {y : Nat} (hy : y < F.q) (e : F.pw y Q = y) : y ∈ fixL F Q := by
 by_cases h0 : y = 0
 ·simp [fixL, h0]
 ·obtain ⟨k, hk, rfl⟩ := h.log hy h0
  obtain ⟨c, hc⟩ := hd; have hq := h.q2; have b0 : 0 < c := Nat.pos_of_ne_zero fun e0 => by rw [e0] at hc; omega
  have a0 : (F.q - 1) / (Q - 1) = c := by rw [hc, qab _ (by omega)]
  have e1 : F.pw F.x (k * Q) = F.pw F.x k := by rw [h.pw_mul _ _ h.xq, e]
  have e2 : F.pw F.x (k * (Q - 1)) = 1 := by
   have a1 := h.pw_add F.x (k * (Q - 1)) h.xq k; rw [show k * (Q - 1) + k = k * Q by rw [<- qco]; congr 1; omega, e1] at a1; have a2 : F.mul 1 (F.pw F.x k) = F.pw F.x k := h.one_mul (h.pw_lt _ _); have l0 := h.mul_inv hy h0; have j0 : F.inv (F.pw F.x k) < F.q := h.pw_lt _ _; have a3 : F.mul (F.mul (F.pw F.x (k * (Q - 1))) (F.pw F.x k)) (F.inv (F.pw F.x k)) = F.mul (F.pw F.x k) (F.inv (F.pw F.x k)) := by rw [<- a1]
   rw [h.mul_assoc (h.pw_lt _ _) hy j0, l0, h.mul_one (h.pw_lt _ _)] at a3; exact a3
  have e3 : k * (Q - 1) % (F.q - 1) = 0 := by
   have a1 := h.pw_mod (k * (Q - 1)); rw [e2] at a1
   by_cases hz : k * (Q - 1) % (F.q - 1) = 0
   ·exact hz
   ·exact absurd a1 (h.ord' _ (by omega) (qu _ (by omega)))
  have e4 : c ∣ k := by
   have a1 := Vq e3; rw [hc, qw k] at a1; exact Nat.dvd_of_mul_dvd_mul_left (by omega) a1
  obtain ⟨i, rfl⟩ := e4; have hi : i < Q - 1 := by
   rw [hc, qw (Q - 1)] at hk; exact Nat.lt_of_mul_lt_mul_left hk
  simp only [fixL, a0, qx, qz, Wq]; exact .inr ⟨i, hi, rfl⟩
theorem Zj : (fixL F Q).Nodup := by
 obtain ⟨c, hc⟩ := hd
 have hq := h.q2
 have b0 : 0 < c := Nat.pos_of_ne_zero fun e0 => by rw [e0] at hc; omega
 have a0 : (F.q - 1) / (Q - 1) = c := by rw [hc, qab _ (by omega)]
 unfold fixL
 rw [a0]
 refine qdf.2 ⟨fun hm => ?_, Je fun i j hi hj e => ?_⟩
 ·obtain ⟨i, _, e⟩ := qz.1 hm
  exact h.pw_ne _ e
 ·have lt : ∀ i, i < Q - 1 -> c * i < F.q - 1 := fun i hi => by rw [hc, qw (Q - 1)]; exact Nat.mul_lt_mul_of_pos_left hi b0
  exact Nat.eq_of_mul_eq_mul_left b0 (h.pw_inj (lt i hi) (lt j hj) e)
theorem Ph {y : Nat} (hy : y ∈ fixL F Q) : y < F.q ∧ F.pw y Q = y := by
 obtain ⟨c, hc⟩ := hd
 have hq := h.q2
 have a0 : (F.q - 1) / (Q - 1) = c := by rw [hc, qab _ (by omega)]
 unfold fixL at hy
 rw [a0] at hy
 rcases qx.1 hy with rfl | hy
 ·refine ⟨by omega, ?_⟩
  obtain ⟨k, hk⟩ : ∃ k, Q = k + 1 := ⟨Q - 1, by omega⟩
  rw [hk]; exact h.mul_zero _
 ·obtain ⟨i, _, rfl⟩ := qz.1 hy
  refine ⟨h.pw_lt _ _, ?_⟩; have e : c * i * Q = c * i + (F.q - 1) * i := by
   have e1 : c * i * Q = c * i * (Q - 1) + c * i := by rw [<- qco]; congr 1; omega
   rw [e1, hc, qw (Q - 1) c, qbt c (Q - 1) i, qw (Q - 1) i, <- qbt, Nat.add_comm]
  have e2 : F.pw F.x ((F.q - 1) * i) = 1 := by rw [h.pw_mul _ _ h.xq, h.ord, h.pw_one]
  rw [<- h.pw_mul _ _ h.xq, e, h.pw_add _ _ h.xq, e2, h.mul_one (h.pw_lt _ _)]
end
theorem Vk (F : FD) {Q : Nat} (hQ : 2 <= Q) : (fixL F Q).length = Q := by simp [fixL]; omega
theorem cH {F S : FD} (h : F.Ok) (hp : S.p = F.p) (hd : (F.m + 1) % (S.m + 1) = 0) : S.q - 1 ∣ F.q - 1 := by
 obtain ⟨k, hk⟩ := Vq hd
 unfold FD.q
 rw [hp, hk]
 exact Nb F.p (S.m + 1) h.p0 k
theorem Vy {F S : FD} (h : F.Ok) (hS : S.Ok) {r : Nat} (hr : Root F S r) (hd : (F.m + 1) % (S.m + 1) = 0) {y : Nat} (hy : y < F.q) (e : F.pw y S.q = y) : ∃ a, a < S.q ∧ phi F S r a = y := by
 have hQ := hS.q2
 have i0 := cH h hr.p hd
 have h1 := Un h hQ i0 hy e
 have h2 := qJ (l1 := (List.range S.q).map (phi F S r)) (fixL F S.q) (Je fun i j hi hj e => pS h hS hr hi hj e) (fun x hx => by
  obtain ⟨a, ha, rfl⟩ := qz.1 hx; exact Un h hQ i0 (Ml h S r a) (gO h hS hr (by simpa using ha))) (by rw [Vk F hQ]; simp) y h1
 obtain ⟨a, ha, e⟩ := qz.1 h2
 exact ⟨a, by simpa using ha, e⟩
end Fq
end
end Go.Proofs.YtoalkldfhkabnaaGreatDoor
