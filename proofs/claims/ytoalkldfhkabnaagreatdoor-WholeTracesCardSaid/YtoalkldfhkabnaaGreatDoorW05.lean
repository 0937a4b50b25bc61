/- Part of WholeTraces. -/
import Derived.StillTailTactics
import Derived.BigRegion
import Derived.Test.YtoalkldfhkabnaaGreatDoorW00
import Derived.Test.YtoalkldfhkabnaaGreatDoorW04
set_option linter.all false
set_option maxRecDepth 10000
set_option maxHeartbeats 16000000
namespace Go.Proofs.YtoalkldfhkabnaaGreatDoor
open Go.RowKit Fq
def Ax (F : FD) (A : OQ) (c : Nat) : Value := .agg #[nQ F.p, .int .i64 ((F.m + 1 : Nat) : Int), .slice A (modL F).length c]
theorem Fp (F : FD) : (modL F).length = if F.m = 0 then 0 else F.m + 1 := by
 unfold modL
 split
 ·rfl
 ·exact Cb _ _ _
theorem Fq.FD.Ok.bd {F : FD} (h : F.Ok) : 2 <= F.q ∧ F.q <= 256 ∧ 2 <= F.p ∧ F.p <= F.q ∧ F.m < 8 := by
 have h2 := h.q2
 have h3 := h.p2
 have h4 := h.q256
 have h5 : F.p ^ 1 <= F.p ^ (F.m + 1) := qy (by omega) (by omega)
 have h6 : 2 ^ (F.m + 1) <= F.p ^ (F.m + 1) := qbi h3 _
 have h7 : F.m < 8 := by
  rcases Nq F.m 8 with h8 | h8
  ·exact h8
  ·have : 2 ^ 9 <= 2 ^ (F.m + 1) := qy (by omega) (by omega)
   unfold FD.q at h4; omega
 unfold FD.q at *
 rw [qbk] at h5
 exact ⟨h2, h4, h3, h5, h7⟩
def Qi (g m : Nat) (v : Value) (_ : WQ) : Prop := ∃ dp, v = .slice dp m m ∧ (0 < m -> dp = some ⟨g, 1, none⟩)
theorem Qi.lasting {g m : Nat} : ∀ v w w', Below w.heap.size w w' -> Qi g m v w -> Qi g m v w' := fun _ _ _ _ h => h
theorem Lk (w : WQ) (F : FD) (hF : F.Ok) (A : OQ) (c : Nat) (hmod : RdN w A (modL F).length c (modL F)) (x y : Nat) (hx : x < F.q) (hy : y < F.q) :
  cQ 161 #[Ax F A c, iv x, iv y] w (Ah (iv (F.mul x y)) w) := by
 obtain ⟨i0, hi, o5, d4, p5⟩ := info_parts Bj
 obtain ⟨g6, hq, c6, f6, z5⟩ := hF.bd
 have r3 := Fp F
 have m2 := sK r3
 generalize hmL : (modL F).length = mL at *
 clear r3
 unfold Ax iv
 rw [hmL]
 clear hmL
 generalize hM : F.m + 1 = M at *
 have HM := sK hM
 have d3 : 0 < M := by omega
 have u5 : M < 9 := by omega
 clear hM
 go_enter Tryz.func161, Tryz.ntmps161
 go_wp2
 obtain ⟨W, hW⟩ := xQ (w.alloc (.cells #[nQ F.p, nQ M, .slice A mL c] 24))
 have v5 : W.heap.size = w.heap.size + 1 := by rw [hW]; simp
 have f3 : Below w.heap.size w W := by rw [hW]; exact Ac _ _
 have c0 : ∀ wx, From W wx -> wx.cell? ⟨w.heap.size, 0, none⟩ = some (nQ F.p) := fun wx hx => (hx.cell (p := ⟨w.heap.size, 0, none⟩) (by simp only; omega)).trans (by rw [hW]; go_simp)
 have e0 : ∀ wx, From W wx -> wx.cell? ⟨w.heap.size, 1, none⟩ = some (nQ M) := fun wx hx => (hx.cell (p := ⟨w.heap.size, 1, none⟩) (by simp only; omega)).trans (by rw [hW]; go_simp)
 have f0 : ∀ wx, From W wx -> wx.cell? ⟨w.heap.size, 2, none⟩ = some (.slice A mL c) := fun wx hx => (hx.cell (p := ⟨w.heap.size, 2, none⟩) (by simp only; omega)).trans (by rw [hW]; go_simp)
 have y0 := sK c0
 have h0 := sK e0
 have k2 := sK f0
 clear c0 e0 f0
 have b6 := hmod.below f3
 rw [<- hW]
 clear hW
 have m5 : x < 1000000 := by omega
 have n5 : y < 1000000 := by omega
 have q4 : From W W := From.refl W
 refine wpT 14 97 [.v (nQ x), .v (pQ w.heap.size), .v (nQ F.p), .v (.pointer (some ⟨w.heap.size, 1, none⟩)), .v (nQ M), .r (IsRd M (digs F.p M x)) IsRd.lasting, .v (nQ y), .v (pQ w.heap.size), .v (nQ F.p), .v (.pointer (some ⟨w.heap.size, 1, none⟩)), .v (nQ M), .r (IsRd M (digs F.p M y)) IsRd.lasting, .r (IsRd M (digs F.p M x)) IsRd.lasting, .r (IsRd M (digs F.p M y)) IsRd.lasting] W (by kernel_rfl) (by kernel_rfl) (by kernel_rfl) rfl (From.drew q4) ?_
 simp only [Tk]
 iterate 5 (refine .z (fun wx hx _ hK => by first | (go_simp; exact Kz hK) | (have hc := y0 wx hx; go_simp; exact Kz hK) | (have hc := h0 wx hx; go_simp; exact Kz hK)) ?_; simp only [Pt])
 refine .r (fun wx hx hd KK hK => ?_) (fun k6 => ?_)
 ·clear hd
  go_simp; refine (Ih _ x F.p M m5 (by omega) (by omega) (by omega)).mono ?_; rintro e w' ⟨A', c', rfl, ho, n0⟩; exact hK.out _ _ ⟨A', c', rfl, ho.rd⟩ n0
 simp only [Pt]
 iterate 5 (refine .z (fun wx hx _ hK => by first | (go_simp; exact Kz hK) | (have hc := y0 wx hx; go_simp; exact Kz hK) | (have hc := h0 wx hx; go_simp; exact Kz hK)) ?_; simp only [Pt])
 refine .r (fun wx hx hd KK hK => ?_) (fun l6 => ?_)
 ·clear hd
  go_simp; refine (Ih _ y F.p M n5 (by omega) (by omega) (by omega)).mono ?_; rintro e w' ⟨A', c', rfl, ho, n0⟩; exact hK.out _ _ ⟨A', c', rfl, ho.rd⟩ n0
 simp only [Pt]
 refine .r (fun wx hx hd KK hK => ?_) (fun v7 => ?_)
 ·obtain ⟨f2, v2, rfl, y2⟩ := hd _ (.tail _ (.head _)) (by kernel_rfl)
  clear hd; go_simp; exact hK.out _ _ ⟨f2, v2, rfl, y2⟩ (bR)
 simp only [Pt]
 refine .r (fun wx hx hd KK hK => ?_) (fun v8 => ?_)
 ·obtain ⟨g2, w2, rfl, z2⟩ := hd _ (.tail _ (.head _)) (by kernel_rfl)
  clear hd; go_simp; exact hK.out _ _ ⟨g2, w2, rfl, z2⟩ (bR)
 simp only [Pt]
 refine .nil fun W1 hx hd => ?_
 obtain ⟨f2, v2, rfl, y2⟩ := hd _ (.tail _ (.tail _ (.tail _ (.head _))))
 obtain ⟨g2, w2, rfl, z2⟩ := hd _ (.tail _ (.tail _ (.head _)))
 obtain ⟨A7, c7, rfl, h7⟩ := hd _ (.tail _ (.head _))
 obtain ⟨A8, c8, rfl, h8⟩ := hd _ (.head _)
 clear hd
 have f4 := h0 W1 hx
 have g0 : Below w.heap.size w W1 := f3.trans (hx.mono (by omega))
 go_wp2_with (at_make; refine Bd rfl _ _ _ rfl i0 Tryz.underlying22 hi o5 d4 p5 _ _ M rfl rfl (by omega) ?_; intro w1 u3 q1 y3; have g4 := h0 w1 (Aa q1 hx))
 clear f4 g4
 go_loopw [10] (fun kv wr => ∃ j : Nat, j <= M ∧ kv = .int .i64 ((j : Int) - 1) ∧ OwnN wr W1.heap.size (sQ W1.heap.size) M M (digs F.p M (hmul F.p F.m F.v x (M - j) (y / F.p ^ j))) ∧ Below W1.heap.size W1 wr ∧ W1.heap.size < wr.heap.size) (fun kv _ => (intOf kv + 1).toNat)
 case atStart =>
  refine ⟨M, qb _, rfl, ?_, q1, by omega⟩; have e : digs F.p M (hmul F.p F.m F.v x (M - M) (y / F.p ^ M)) = List.replicate M 0 := by
   rw [qaa]; show digs F.p M 0 = _; have : ∀ m, digs F.p m 0 = List.replicate m 0 := by
    intro m
    induction m with
    | zero => rfl
    | succ m ih => rw [digs, qcc, Nat.zero_div, ih]; rfl
   exact this M
  rw [e]; exact u3
 case round =>
  clear u3 q1 y3; obtain ⟨j, hj, rfl, a0, hb, d0⟩ := hrel; have c0 := y0 wr (Aa hb hx); have e0 := h0 wr (Aa hb hx); have f0 := k2 wr (Aa hb hx)
  cases j with
  | zero =>
   have x3 : hmul F.p F.m F.v x (M - 0) (y / F.p ^ 0) = F.mul x y := by rw [Nat.pow_zero, Nat.div_one, Nat.sub_zero, <- HM.out]; rfl
   rw [x3] at a0; have hv : val F.p (digs F.p M (F.mul x y)) = F.mul x y := Gw hF.p0 M _ (by rw [<- HM.out]; exact hF.mul_lt x y); have c4 : F.mul x y < 1000000 := by have := hF.mul_lt x y; omega
   have s1 := Ve wr _ M M F.p _ a0.rd hF.p0 (by omega) (by rw [hv]; exact c4); rw [hv] at s1; unfold iv at s1; clear hv x3 c4; go_wp2_with (go_at_call 278; refine s1.mono ?_; rintro e w' ⟨rfl, rfl⟩); go_ret; exact ⟨rfl, g0.trans (hb.mono g0.size)⟩
  | succ j =>
   have t3 : padd F.p M (mX F.p F.m F.v (hmul F.p F.m F.v x (M - (j + 1)) (y / F.p ^ (j + 1)))) (smul F.p M (y / F.p ^ j % F.p) x) = hmul F.p F.m F.v x (M - j) (y / F.p ^ j) := by
    rw [show M - j = (M - (j + 1)) + 1 by omega, hmul, <- HM.out, qah, <- qr]
   have u4 : hmul F.p F.m F.v x (M - (j + 1)) (y / F.p ^ (j + 1)) < F.q := Hc hF.p1 x _ _; have o2 := sK t3; have HJ := sK hj; clear t3; generalize hmul F.p F.m F.v x (M - (j + 1)) (y / F.p ^ (j + 1)) = acc at *; have ej : ((j + 1 : Nat) : Int) - 1 = (j : Int) := by omega
   rw [ej]; clear ej; have x2 : (M : Int) - 1 = (F.m : Int) := by have := HM.out; omega
   have q3 : F.m < M := by have := HM.out; omega
   have j5 : acc / F.p ^ F.m < F.p := by
    rw [qaq (qbd hF.p0), qw, <- qr]; exact u4
   have k3 := a0.cell q3; rw [Gu hF.p0 M acc F.m q3, Bq j5] at k3; have n4 : Hid (acc / F.p ^ F.m = acc / F.p ^ F.m) := sK rfl; generalize htop : acc / F.p ^ F.m = top at *; clear n4; have i5 : (Tryz.prog.info? 3).map (·.size) = some 1 := by rw [hi]; simp [d4]
   have m3 := a0.heap; have d5 := Cb F.p M acc; have s2 : Hid (w.heap.size < wr.heap.size) := sK (by have := g0.size; omega); have j6 : 1 <= (M : Int) := by omega
   have k5 := Ay (a := F.m) (by omega); have a6 : F.m <= M := by omega
   go_wp2; have j2 := sK e0; have l2 := sK m3; clear m3; have q5 := sK x2; clear x2 k5; have l5 : IntKind.i64.wrap ((M : Int) - 1) = (M : Int) - 1 := qbz _ ⟨by omega, by omega⟩; have s4 : (M : Int) - 1 <= (M : Int) := by omega
   have a3 : From wr wr := From.refl wr; refine wpT 7 97 [.v (.slice (sQ W1.heap.size) M M), .r (Qi W1.heap.size (M - 1)) Qi.lasting, .v (.slice (sQ W1.heap.size) M M), .v (.pointer (some ⟨w.heap.size, 1, none⟩)), .v (nQ M), .v (.int .i64 ((M : Int) - 1)), .v (.slice (sQ W1.heap.size) (M - 1) M)] wr (by kernel_rfl) (by kernel_rfl) (by kernel_rfl) rfl (From.drew a3) ?_; simp only [Tk]; refine .z (fun _ _ _ hK => by go_simp; exact Kz hK) ?_; simp only [Pt]; refine .r (fun wx hx hd KK hK => ?_) (fun m6 => ?_)
   ·clear hd
    go_simp; exact hK.out _ _ ⟨_, rfl, fun h9 => if_neg (by omega)⟩ (bR)
   simp only [Pt]
   iterate 5 (refine .z (fun wx hx _ hK => by first | (go_simp; exact Kz hK) | (have hc := (hx.cell (p := ⟨w.heap.size, 1, none⟩) (by simp only; have := s2.out; omega)).trans j2.out; go_simp; exact Kz hK)) ?_; simp only [Pt])
   refine .nil fun W2 x0 hd => ?_
   obtain ⟨s5, rfl, p4⟩ := hd _ (.head _); clear hd; have n3 := (x0.block W1.heap.size (by omega)).trans l2.out; have z0 := sK d5; have v3 := a0.below x0; have t0 : (ivs ((digs F.p M acc).take F.m)).length = F.m := by rw [Cl, Sq, z0.out]; omega
   have j3 : ∀ k v, (ivs ((digs F.p M acc).take F.m))[k]? = some v -> W2.cell? ((⟨W1.heap.size, 0, none⟩ : Addr).add k) = some v := fun k v hv => by
    obtain ⟨hk, rfl⟩ := Lb hv; rw [Sq] at hk; rw [qcg, Zq, v3.cell (by omega), Hs _ _ (by omega)]
   refine wpList_copy_splice rfl (.tmp 43) (.tmp 48) 22 22 rfl 3 Tryz.underlying22 i5 _ _ _ _ _ _ rfl rfl W1.heap.size 1 _ 3 n3 (ivs ((digs F.p M acc).take F.m)) ?c1 ?c2 ?c3 (Tb _) W1.heap.size W1 (hb.trans (x0.mono (by omega))) (qb _) ?_
   case c1 => rw [t0]; have := HM.out; simp; omega
   case c2 => exact fun h9 => ⟨p4 (by rw [t0] at h9; have := HM.out; omega), _, rfl, j3⟩
   case c3 => rw [t0, Cl, z0.out]; have := HM.out; omega
   intro w3 l3 a1; have b4 : splice (ivs (digs F.p M acc)) 1 (ivs ((digs F.p M acc).take F.m)) = ivs ((digs F.p M acc).getD 0 0 :: (digs F.p M acc).take F.m) := by
    have h1 : (digs F.p M acc).take 1 = [(digs F.p M acc).getD 0 0] := by rw [<- HM.out]; rfl
    unfold splice; rw [t0, ivs, <- List.map_take, h1, <- List.map_drop, qbl (by rw [z0.out]; have := HM.out; omega)]; simp [ivs]
   have v1 := l3.out; rw [b4] at v1; have o3 : ((digs F.p M acc).getD 0 0 :: (digs F.p M acc).take F.m).length = M := by rw [qan, Sq, z0.out]; have := HM.out; omega
   have w0 : OwnN w3 W1.heap.size (sQ W1.heap.size) M M ((digs F.p M acc).getD 0 0 :: (digs F.p M acc).take F.m) :=
    OwnN.ofHeap v1 (qb _) o3 (by unfold maxLen; omega) (Sm.append (l := [_]) (Sm.one (a0.sm.at 0)) (a0.sm.take _))
   have l0 := w0.set 0 (x := 0) (by omega); have a4 : ((digs F.p M acc).getD 0 0 :: (digs F.p M acc).take F.m).set 0 0 = digs F.p M (F.p * (acc % F.p ^ F.m)) := by
    rw [qo, <- HM.out, aB hF.p0, digs_snoc, List.take_append_of_le_length (by rw [Cb]; exact qb _), qq (by rw [Cb]; exact qb _)]
   rw [a4] at l0; change OwnN (w3.setCell ⟨W1.heap.size, 0, none⟩ (zQ)) _ _ _ _ _ at l0; have z4 := w0.cell (k := 0) d3; have a5 := w0.free 0; have p3 : W1.heap.size < w3.heap.size := (w0.block d3).elim fun g hg => by have h9 := hg.1; simp only [qc, qd, and_true] at h9; omega
   have i2 := sK a1; have o4 := sK x0; clear b4 v1 o3 w0 a4 l3 t0 j3 n3 v3 a1 l5 s4 x0; go_wp2; have x1 : Below W1.heap.size W1 (w3.setCell ⟨W1.heap.size, 0, none⟩ (zQ)) := i2.setCell (p := ⟨W1.heap.size, 0, none⟩) (qb _) _; have y1 : W1.heap.size < (w3.setCell ⟨W1.heap.size, 0, none⟩ (zQ)).heap.size := by simpa [World.setCell] using p3
   clear z4 a5 p3 a0 l2 j2 i2 o4 c0 e0 f0 k3 s2 d0 hb a3; have i1 := sK (Cb F.p M (hmul F.p F.m F.v x (M - j) (y / F.p ^ j))); have j1 := sK (Cb F.p M (F.p * (acc % F.p ^ F.m))); have n2 : Hid (∀ k, k < M -> (digs F.p M (hmul F.p F.m F.v x (M - j) (y / F.p ^ j))).getD k 0 = ((digs F.p M (F.p * (acc % F.p ^ F.m))).getD k 0 + (F.p - top) * (F.v / F.p ^ k % F.p) + (y / F.p ^ j % F.p) * (x / F.p ^ k % F.p)) % F.p) := sK fun k hk => by
    rw [<- o2.out, Gu hF.p0 _ _ _ hk, Gu hF.p0 _ _ _ hk, <- htop, <- HM.out]; exact jW hF.p0 F.m F.v acc _ x k (by have := HM.out; omega)
   have k4 : Hid (digs F.p M (hmul F.p F.m F.v x (M - j) (y / F.p ^ j)) = digs F.p M (hmul F.p F.m F.v x (M - j) (y / F.p ^ j))) := sK rfl; generalize hNL : digs F.p M (hmul F.p F.m F.v x (M - j) (y / F.p ^ j)) = NL at *; generalize digs F.p M (F.p * (acc % F.p ^ F.m)) = OL at *; have l4 := sK hNL; clear hNL k4 htop o2; have HO : Hid (∀ k, OL.getD k 0 < 1000000) := sK fun k => by
    have h9 := l0.sm.at k; exact h9
   obtain ⟨w4, a2⟩ := xQ (w3.setCell ⟨W1.heap.size, 0, none⟩ (zQ)); rw [<- a2] at l0 x1 y1; rw [<- a2]; clear a2
   go_loopw [54] (fun kv wq => ∃ k : Nat, k <= M ∧ kv = nQ k ∧ OwnN wq W1.heap.size (sQ W1.heap.size) M M (mixL NL OL k) ∧ Below W1.heap.size W1 wq ∧ W1.heap.size < wq.heap.size) (fun kv _ => M - (intOf kv).toNat)
   case atStart => exact ⟨0, qe _, rfl, by rw [Cz]; exact l0, x1, y1⟩
   case round =>
    clear l0 x1 y1; obtain ⟨k, hk, rfl, a0, hb, d0⟩ := hrel
    by_cases hkM : k < M
    ·have d2 := Aa hb hx
     have c0 := y0 wr d2; have e0 := h0 wr d2; have f0 := k2 wr d2; obtain ⟨bb, ob, rfl, y4, i3⟩ := h8.at (show j < M by have := HJ.out; omega); have q0 := (hb.cell (p := ⟨bb, ob + j, none⟩) y4).trans i3; obtain ⟨ba, oa, rfl, x4, g3⟩ := h7.at hkM; have o0 := (hb.cell (p := ⟨ba, oa + k, none⟩) x4).trans g3; rw [Gu hF.p0 M y j (by have := HJ.out; omega)] at q0; rw [Gu hF.p0 M x k hkM] at o0; clear i3 g3; have r0 := a0.cell hkM; rw [Ep i1 j1 (qb k) hkM] at r0; have j0 := a0.free k; have z1 := n2 k hkM; have t4 : NL.getD k 0 < 1000000 := by rw [z1]; have := qu (OL.getD k 0 + (F.p - top) * (F.v / F.p ^ k % F.p) + (y / F.p ^ j % F.p) * (x / F.p ^ k % F.p)) hF.p0; omega
     have z3 : ∀ w', Below wr.heap.size wr w' -> OwnN (w'.setCell ⟨W1.heap.size, k, none⟩ (.int .i64 (NL.getD k 0 : Nat))) W1.heap.size (sQ W1.heap.size) M M (mixL NL OL (k + 1)) := fun w' n0 => by
      have h9 := (a0.below n0).set k t4
      rwa [Cu i1 j1 hkM] at h9
     have ho := HO k; have x5 : y / F.p ^ j % F.p < F.p := qu _ hF.p0; have w5 : x / F.p ^ k % F.p < F.p := qu _ hF.p0; have i6 : F.v / F.p ^ k % F.p < F.p := qu _ hF.p0; have i4 : Hid (F.m = 0 -> F.v / F.p ^ k % F.p = 0) := sK fun h9 => by rw [hF.v0 h9, Nat.zero_div, qcc]
     have s3 : F.m ≠ 0 -> ∃ bm om, A = some ⟨bm, om, none⟩ ∧ wr.cell? ⟨bm, om + k, none⟩ = some (.int .i64 ((F.v / F.p ^ k % F.p : Nat) : Int)) := fun h9 => by
      have n1 := m2.out; rw [if_neg h9] at n1; have f5 := hmod.below (g0.trans (hb.mono g0.size)); obtain ⟨bm, om, e, _, r1⟩ := f5.at (show k < mL by omega); refine ⟨bm, om, e, ?_⟩; rw [r1]; unfold modL; rw [if_neg h9, HM.out, Gu hF.p0 M F.v k hkM]
     have j4 := sK s3; clear s3; generalize y / F.p ^ j % F.p = bd at *; generalize x / F.p ^ k % F.p = ad at *; generalize F.v / F.p ^ k % F.p = lo at *; generalize OL.getD k 0 = od at *; have e1 : IntKind.i64.wrap ((F.p : Int) - (top : Int)) = ((F.p - top : Nat) : Int) := by rw [show (F.p : Int) - (top : Int) = ((F.p - top : Nat) : Int) by omega]; exact Ay (by omega)
     have y3 : F.p - top <= 256 := by omega
     generalize F.p - top = sd at *; have a1 := Et (a := sd) (b := lo) (by omega) (by omega); have e2 : IntKind.i64.wrap ((sd : Int) * (lo : Int)) = ((sd * lo : Nat) : Int) := by rw [<- Yq]; exact Ay (by omega)
     have m4 : Hid (lo = 0 -> sd * lo = 0) := sK fun h9 => by rw [h9, qce]
     generalize sd * lo = t1 at *; have e3 : IntKind.i64.wrap ((od : Int) + (t1 : Int)) = ((od + t1 : Nat) : Int) := by rw [<- qal]; exact Ay (by omega)
     have v4 := Et (a := bd) (b := ad) (by omega) (by omega); have e4 : IntKind.i64.wrap ((bd : Int) * (ad : Int)) = ((bd * ad : Nat) : Int) := by rw [<- Yq]; exact Ay (by omega)
     generalize bd * ad = t2 at *; have e5 : IntKind.i64.wrap (((od + t1 : Nat) : Int) + (t2 : Int)) = ((od + t1 + t2 : Nat) : Int) := by rw [<- qal]; exact Ay (by omega)
     have e6 := Cg (od + t1 + t2) F.p; rw [<- z1] at e6; have d6 : 2 <= (F.p : Int) := by omega
     generalize od + t1 + t2 = u2 at *; have r2 := sK z3; generalize hnk : NL.getD k 0 = nk at *; have r5 := sK hnk; clear hnk z3 z1 n2 HO a1 v4
     by_cases hm0 : F.m = 0
     ·obtain rfl : lo = 0 := i4 hm0
      obtain rfl : t1 = 0 := m4 rfl; simp only [qcd] at e3 e5; have r4 : (M : Int) <= 1 := by have := HM.out; omega
      have t5 := Ay (a := od) (by omega); clear hm0 e2 e3; have k1 : Hid (w.heap.size < wr.heap.size) := sK (by have := g0.size; omega); have l1 : Hid (bb < wr.heap.size) := sK (by omega); have m1 : Hid (ba < wr.heap.size) := sK (by omega); have d1 := sK c0; have g1 := sK q0; have f1 := sK o0; have m0 := sK r0; have b1 := sK j0; have b5 : j < M := by have := HJ.out; omega
      have g5 : ¬ F.p = 0 := by omega
      go_wp2; clear c0 e0 f0 q0 o0 r0 j0; have o1 : From wr wr := From.refl wr; refine wpT 27 97 [.v (.slice (sQ W1.heap.size) M M), .v (nQ k), .v (.slice (sQ W1.heap.size) M M), .v (nQ k), .v (.pointer (some ⟨W1.heap.size, k, none⟩)), .v (nQ od), .v (pQ w.heap.size), .v (nQ F.p), .v (nQ top), .v (nQ sd), .v (zQ), .v (zQ), .v (nQ od), .v (.slice (some ⟨bb, ob, none⟩) M c8), .v (nQ j), .v (.pointer (some ⟨bb, ob + j, none⟩)), .v (nQ bd), .v (.slice (some ⟨ba, oa, none⟩) M c7), .v (nQ k), .v (.pointer (some ⟨ba, oa + k, none⟩)), .v (nQ ad), .v (nQ t2), .v (nQ u2), .v (pQ w.heap.size), .v (nQ F.p), .v (nQ nk), .v (.pointer (some ⟨W1.heap.size, k, none⟩))] wr (by kernel_rfl) (by kernel_rfl) (by kernel_rfl) rfl (From.drew o1) ?_; simp only [Tk]
      iterate 27 (refine .z (fun wx hx _ hK => by first | (go_simp; exact Kz hK) | (have hc := (hx.cell (p := ⟨W1.heap.size, k, none⟩) d0).trans m0.out; go_simp; exact Kz hK) | (have hc := (hx.cell (p := ⟨w.heap.size, 0, none⟩) k1.out).trans d1.out; go_simp; exact Kz hK) | (have hc := (hx.cell (p := ⟨bb, ob + j, none⟩) l1.out).trans g1.out; go_simp; exact Kz hK) | (have hc := (hx.cell (p := ⟨ba, oa + k, none⟩) m1.out).trans f1.out; go_simp; exact Kz hK)) ?_; simp only [Pt])
      refine .nil fun W5 b0 _ => ?_
      have c5 := (b0.cell (p := ⟨W1.heap.size, k, none⟩) d0).trans m0.out; have j0 := (b0.frozen (p := ⟨W1.heap.size, k, none⟩) d0).trans b1.out; go_wp2; go_roundw
      case rel => exact ⟨k + 1, by omega, by go_num, r2 _ b0, (hb.trans (b0.mono (by omega))).setCell (p := ⟨W1.heap.size, k, none⟩) (qb _) _, by have := b0.size; simp [World.setCell]; omega⟩
      case measure => simp [intOf]; omega
     ·obtain ⟨bm, om, rfl, r1⟩ := j4 hm0
      have r4 : 1 < (M : Int) := by have := HM.out; omega
      have y5 : k < mL := by have n1 := m2.out; rw [if_neg hm0] at n1; omega
      clear hm0; have k1 : Hid (w.heap.size < wr.heap.size) := sK (by have := g0.size; omega); have l1 : Hid (bb < wr.heap.size) := sK (by omega); have m1 : Hid (ba < wr.heap.size) := sK (by omega); have d1 := sK c0; have g1 := sK q0; have f1 := sK o0; have m0 := sK r0; have b1 := sK j0; have b5 : j < M := by have := HJ.out; omega
      have g5 : ¬ F.p = 0 := by omega
      generalize od + t1 = u1 at *; go_wp2; clear c0 e0 f0 q0 o0 r0 j0 r1; have o1 : From wr wr := From.refl wr; refine wpT 27 97 [.v (.slice (sQ W1.heap.size) M M), .v (nQ k), .v (.slice (sQ W1.heap.size) M M), .v (nQ k), .v (.pointer (some ⟨W1.heap.size, k, none⟩)), .v (nQ od), .v (pQ w.heap.size), .v (nQ F.p), .v (nQ top), .v (nQ sd), .v (nQ lo), .v (nQ t1), .v (nQ u1), .v (.slice (some ⟨bb, ob, none⟩) M c8), .v (nQ j), .v (.pointer (some ⟨bb, ob + j, none⟩)), .v (nQ bd), .v (.slice (some ⟨ba, oa, none⟩) M c7), .v (nQ k), .v (.pointer (some ⟨ba, oa + k, none⟩)), .v (nQ ad), .v (nQ t2), .v (nQ u2), .v (pQ w.heap.size), .v (nQ F.p), .v (nQ nk), .v (.pointer (some ⟨W1.heap.size, k, none⟩))] wr (by kernel_rfl) (by kernel_rfl) (by kernel_rfl) rfl (From.drew o1) ?_; simp only [Tk]
      iterate 27 (refine .z (fun wx hx _ hK => by first | (go_simp; exact Kz hK) | (have hc := (hx.cell (p := ⟨W1.heap.size, k, none⟩) d0).trans m0.out; go_simp; exact Kz hK) | (have hc := (hx.cell (p := ⟨w.heap.size, 0, none⟩) k1.out).trans d1.out; go_simp; exact Kz hK) | (have hc := (hx.cell (p := ⟨bb, ob + j, none⟩) l1.out).trans g1.out; go_simp; exact Kz hK) | (have hc := (hx.cell (p := ⟨ba, oa + k, none⟩) m1.out).trans f1.out; go_simp; exact Kz hK)) ?_; simp only [Pt])
      refine .nil fun W5 b0 _ => ?_
      have c5 := (b0.cell (p := ⟨W1.heap.size, k, none⟩) d0).trans m0.out; have j0 := (b0.frozen (p := ⟨W1.heap.size, k, none⟩) d0).trans b1.out; go_wp2; go_roundw
      case rel => exact ⟨k + 1, by omega, by go_num, r2 _ b0, (hb.trans (b0.mono (by omega))).setCell (p := ⟨W1.heap.size, k, none⟩) (qb _) _, by have := b0.size; simp [World.setCell]; omega⟩
      case measure => simp [intOf]; omega
    ·obtain rfl : k = M := by omega
     rw [Dp i1 j1.out, <- l4.out] at a0; go_wp2; go_roundw
     case rel => exact ⟨j, by omega, by go_num, a0, hb, d0⟩
     case measure => simp [intOf]
def Diff (F : FD) (x n : Nat) : Prop := (∀ i, i < n -> F.pw x i ≠ 0) ∧ ∀ i j, i < j -> j < n -> F.pw x i ≠ F.pw x j
theorem Diff.le {F : FD} (h : F.Ok) {x n : Nat} (hd : Diff F x n) : n <= F.q - 1 := by
 have hq := h.q2
 have hn : (0 :: F.exps x n).Nodup := by
  refine qdf.2 ⟨fun hm => ?_, Je fun i j hi hj e => ?_⟩
  ·obtain ⟨i, hi, e⟩ := qz.1 hm
   exact hd.1 i (by simpa using hi) e
  ·rcases Nat.lt_trichotomy i j with h1 | h1 | h1
   ·exact absurd e (hd.2 i j h1 hj)
   ·exact h1
   ·exact absurd e.symm (hd.2 j i h1 hi)
 have := Wr F.q _ hn (fun y hy => by
  rcases qx.1 hy with rfl | hy
  ·omega
  ·obtain ⟨i, _, rfl⟩ := qz.1 hy
   exact h.pw_lt _ _)
 simp [FD.exps] at this
 omega
theorem Rz (F : FD) (x n : Nat) : F.exps x (n + 1) = F.exps x n ++ [F.pw x n] := by
 simp [FD.exps, qaj]
def Ix (F : FD) (x n : Nat) : List Bool := (List.range F.q).map fun z => decide (z ∈ F.exps x n)
theorem Mv (F : FD) (x n : Nat) : (Ix F x n).length = F.q := by simp [Ix]
theorem gH (F : FD) (x n : Nat) {z : Nat} (hz : z < F.q) : (Ix F x n).getD z false = decide (z ∈ F.exps x n) := by
 simp [Ix, qa, hz]
theorem Rp (F : FD) (x n : Nat) : (Ix F x n).set (F.pw x n) true = Ix F x (n + 1) := by
 refine Tq (by simp [Mv]) fun j h1 h2 => ?_
 rw [qai, Mv] at h1
 rw [qch]
 simp only [Ix, qcu, qcj, Rz, qar, qbm]
 by_cases e : F.pw x n = j
 ·simp [e]
 ·have : j ≠ F.pw x n := fun h9 => e h9.symm
  simp [e, this]
theorem Xl (F : FD) (x : Nat) : Ix F x 0 = List.replicate F.q false := by
 refine Tq (by simp [Mv]) fun j h1 h2 => ?_
 simp [Ix, FD.exps]
def aR (F : FD) (x : Nat) (w : WQ) (e : Ending) (w' : WQ) : Prop :=
 ∃ n g c, 1 <= n ∧ Diff F x n ∧ (F.pw x n = 0 ∨ F.pw x n ∈ F.exps x n) ∧ e = .returned (.slice (sQ g) n c) ∧ OwnN w' w.heap.size (sQ g) n c (F.exps x n) ∧ Below w.heap.size w w'
theorem aJ (w : WQ) (F : FD) (hF : F.Ok) (A : OQ) (c : Nat) (hmod : RdN w A (modL F).length c (modL F)) (x : Nat) (hx : x < F.q) :
  cQ 160 #[Ax F A c, iv F.q, iv x] w (aR F x w) := by
 obtain ⟨i0, hi, a2, d2, e2⟩ := info_parts Bj
 obtain ⟨i1, hj, x1, y1, z1⟩ := info_parts kV
 obtain ⟨v2, hq, s2, t2, r2⟩ := hF.bd
 obtain ⟨mL, z0⟩ := xQ ((modL F).length)
 obtain ⟨M, hM⟩ := xQ (F.m + 1)
 have e1 : Ax F A c = .agg #[nQ F.p, nQ M, .slice A mL c] := by rw [hM, z0]; rfl
 have hmul : ∀ w', Below w.heap.size w w' -> ∀ y, y < F.q -> cQ 161 #[.agg #[nQ F.p, nQ M, .slice A mL c], nQ y, nQ x] w' (Ah (.int .i64 ((F.mul y x : Nat) : Int)) w') := fun w' hb y hy => by
  rw [<- e1]; exact Lk w' F hF A c (hmod.below hb) y x hy hx
 have f1 := sK hmul
 have k1 := sK (hF.pw_1 hx)
 have g1 := sK fun n => hF.pw_lt x n
 have u2 : 1 < (F.q : Int) := by omega
 rw [e1]
 unfold iv
 clear hmul e1 hM z0 hmod
 go_enter Tryz.func160, Tryz.ntmps160
 go_wp2_with (at_make; refine Qo rfl _ _ _ rfl i1 Tryz.underlying203 hj x1 y1 z1 _ _ F.q rfl rfl (by omega) ?_; intro w1 e0 c0 l0; simp only [qi] at e0 c0 l0; have n0 := sK l0; clear l0; have t0 := e0.cell (k := 1) (by omega); have s1 := e0.free 1)
 have o0 : Below w.heap.size w w1 := (((bR).alloc (qb _) _).alloc (by simp) _).trans (c0.mono (by omega))
 have q0 := ((OwnN.lit (w.alloc (.cells #[nQ F.p, nQ M, .slice A mL c] 24)) (base := w.heap.size + 1) [1] 1 rfl (by simp) (by unfold maxLen; omega) (Sm.one (by omega))).keep c0 (by simp))
 have b0 := e0.set 1 true
 have a0 := q0.kept (Ad w1 (w.heap.size + 1 + 1) 1 (.bool true)) (fun g hg e => by simp at hg e; omega)
 simp only [qi] at a0
 have p2 : w.heap.size + 1 + 1 < w1.heap.size := by have := n0.out; omega
 have hC : ∀ wr, Below (w.heap.size + 1) w1 wr -> wr.cell? ⟨w.heap.size, 0, none⟩ = some (nQ F.p) ∧ wr.cell? ⟨w.heap.size, 1, none⟩ = some (nQ M) ∧ wr.cell? ⟨w.heap.size, 2, none⟩ = some (.slice A mL c) := fun wr hb => by
  refine ⟨?_, ?_, ?_⟩
  all_goals
   rw [hb.cell (by simp), c0.cell (by simp; omega)]; go_simp
 have HC := sK hC
 have b1 : (List.replicate F.q false).set 1 true = Ix F x 1 := by rw [<- Xl F x, <- Rp]; rfl
 rw [b1] at b0
 have v0 : [1] = F.exps x 1 := rfl
 rw [v0] at a0
 have r0 : Below (w.heap.size + 1) w1 (w1.setCell ⟨w.heap.size + 1 + 1, 1, none⟩ (.bool true)) := (bR).setCell (p := ⟨w.heap.size + 1 + 1, 1, none⟩) (by simp) _
 clear hC q0 e0 b1 v0
 have m0 : Hid (Diff F x 1) := sK ⟨fun i hi => by
  obtain rfl : i = 0 := by omega
  simp [FD.pw], fun i j hi hj => by omega⟩
 go_loopw [7, 9] (fun ov yv wr => ∃ k g c : Nat, ov = .slice (sQ g) k c ∧ yv = .int .i64 (F.pw x k : Nat) ∧ 1 <= k ∧ Hid (Diff F x k) ∧ g ≠ w.heap.size + 1 + 1 ∧ w.heap.size < g ∧ OwnN wr (w.heap.size + 1) (sQ g) k c (F.exps x k) ∧
   OwnB wr (w.heap.size + 1 + 1) (w.heap.size + 1 + 1) F.q (Ix F x k) ∧ Below (w.heap.size + 1) w1 wr) (fun ov _ _ => match ov with | .slice _ n _ => F.q - n | _ => 0)
 case atStart => exact ⟨1, w.heap.size + 1, 1, rfl, by rw [k1.out], by omega, m0, by omega, by omega, a0, b0, r0⟩
 case round =>
  clear b0 a0 r0 m0 c0 t0 s1; obtain ⟨k, g, c', rfl, rfl, t1, HD, m2, n2, hO, hB, hb⟩ := hrel; obtain ⟨f2, t0, g2⟩ := HC wr hb; have o2 := HD.le hF; have hY := g1 k; have d0 : (F.pw x k = 0 ∨ F.pw x k ∈ F.exps x k) -> aR F x w (.returned (.slice (sQ g) k c')) wr := fun h9 =>
   ⟨k, g, c', t1, HD.out, h9, rfl, hO.mono (by omega), o0.trans (hb.mono (by omega))⟩
  by_cases hY0 : F.pw x k = 0
  ·have hE := d0 (.inl hY0)
   have q1 : ((F.pw x k : Int) != 0) = false := by simp [hY0]
   clear d0 hY0; generalize F.pw x k = Y at *; go_wp2; go_ret; exact hE
  ·have q1 : ((F.pw x k : Int) != 0) = true := by rw [bne_iff_ne]; omega
   have j0 := hB.cell hY; rw [gH F x k hY] at j0
   by_cases hYm : F.pw x k ∈ F.exps x k
   ·have hE := d0 (.inr hYm)
    rw [decide_eq_true hYm] at j0; clear d0 hY0 hYm; generalize F.pw x k = Y at *; go_wp2; go_ret; exact hE
   ·rw [decide_eq_false hYm] at j0
    have l2 := hB.free (F.pw x k); have b0 := hB.set (F.pw x k) true; rw [Rp] at b0; have a0 := hO.kept (Ad wr (w.heap.size + 1 + 1) (F.pw x k) (.bool true)) (fun g9 hg e => by simp at hg e; omega); have c1 : Hid (Diff F x (k + 1)) := sK (by
     refine ⟨fun i hi => ?_, fun i j y0 hj => ?_⟩
     ·rcases Nq i k with h9 | h9
      ·exact HD.out.1 i h9
      ·obtain rfl : i = k := by omega
       exact hY0
     ·rcases Nq j k with h9 | h9
      ·exact HD.out.2 i j y0 h9
      ·obtain rfl : j = k := by omega
       intro e; exact hYm (by rw [<- e]; exact qz.2 ⟨i, by simpa using y0, rfl⟩))
    have a1 : ∀ w', Below w.heap.size w w' -> cQ 161 #[.agg #[nQ F.p, nQ M, .slice A mL c], .int .i64 (F.pw x k : Nat), nQ x] w' (Ah (.int .i64 ((F.pw x (k + 1) : Nat) : Int)) w') := fun w' h9 => f1 w' h9 _ hY
    have d1 := sK a1; have j1 := sK (Rz F x k); have r1 : Below (w.heap.size + 1) w1 (wr.setCell ⟨w.heap.size + 1 + 1, F.pw x k, none⟩ (.bool true)) := hb.setCell (p := ⟨w.heap.size + 1 + 1, F.pw x k, none⟩) (by simp) _; clear d0 a1 hB hO; generalize hYg : F.pw x (k + 1) = Y2 at *; have l1 := sK hYg; clear hYg; generalize F.pw x k = Y at *; clear hY0 hYm; have o1 : Y < 1000000 := by omega
    have f0 : Hid (w.heap.size + 1 + 1 < wr.heap.size) := sK (by have := hb.size; omega); go_wp2_with (at_builtin; refine Bl rfl (.tmp 32) (.tmp 34) 22 rfl i0 Tryz.underlying22 hi a2 d2 e2 (w.heap.size + 1) _ _ _ _ rfl (a0.alloc _) _ 0 Y rfl (by go_simp) o1 (by omega) (by have := f0.out; simp [World.setCell]; omega) ?_; intro g' c2 w2 n1 w0 v1; have g0 : Below (w.heap.size + 1) w1 w2 := ((r1.alloc (by have := f0.out; simp [World.setCell]; omega) _).grown w0 (by have := f0.out; simp [World.setCell]; omega) (fun k9 u1 => by simp [Value.ownBlock] at u1; omega)); have m1 := (b0.below (Ac _ _)).kept w0 (by simp [Value.ownBlock]; omega); obtain ⟨i2, j2, k2⟩ := HC w2 g0; clear b0 a0); refine (d1 w2 (o0.trans (g0.mono (by omega)))).mono ?_; rintro e w3 ⟨rfl, h0⟩; go_wp2; have x0 : g' ≠ w.heap.size + 1 + 1 ∧ w.heap.size < g' := by
     rcases v1 with h9 | h9
     ·simp only [qc, qd, and_true] at h9
      omega
     ·have := f0.out
      simp [World.setCell] at h9; omega
    go_roundw
    case rel => exact ⟨k + 1, g', c2, rfl, by rw [l1.out], by omega, c1, x0.1, x0.2, by rw [j1.out]; exact n1.below h0, m1.below h0, g0.trans (h0.mono (by have h8 := g0.size; have h9 := n0.out; omega))⟩
    case measure => simp; omega
theorem Fq.FD.Ok.pow_le {F : FD} (h : F.Ok) {k : Nat} (hk : k <= F.m + 1) : F.p ^ k <= 256 := qs (qy h.p0 hk) h.q256
theorem Jd (w : WQ) (F : FD) (h : F.Ok) : cQ 103 #[iv F.p, iv (F.m + 1)] w (Ba (iv F.q) w) := by
 obtain ⟨l0, hq, e0, j0, i0⟩ := h.bd
 have HP : Hid (∀ k, k <= F.m + 1 -> F.p ^ k <= 256) := sK fun k hk => h.pow_le hk
 have HQ : Hid (F.p ^ (F.m + 1) = F.q) := sK rfl
 have o0 : F.m + 1 <= 8 := by omega
 have m0 : 1 <= F.m + 1 := by omega
 unfold iv
 generalize F.m + 1 = M at *
 generalize F.p = p at *
 go_enter Tryz.func103, Tryz.ntmps103
 go_wp2
 go_loop [5, 21] (fun qv b0 => ∃ k : Nat, k <= M ∧ b0 = nQ k ∧ qv = .int .i64 ((p ^ k : Nat) : Int)) (fun _ b0 => M - (intOf b0).toNat)
 case atStart => exact ⟨0, qe _, rfl, rfl⟩
 case round =>
  obtain ⟨k, hk, rfl, rfl⟩ := hrel
  by_cases hlt : k < M
  ·have h1 := HP (k + 1) hlt
   have h2 := HP k hk; have e1 : ((p ^ k : Nat) : Int) * (p : Int) = ((p ^ (k + 1) : Nat) : Int) := by rw [qr, Yq]
   generalize hX : p ^ (k + 1) = X at *; have HX := sK hX; clear hX; generalize p ^ k = Y at *; go_wp2; go_round
   case rel => exact ⟨k + 1, by omega, by go_num, by rw [HX.out]⟩
   case measure => simp [intOf]; omega
  ·obtain rfl : k = M := by omega
   rw [HQ.out]; go_wp2; go_ret; exact ⟨rfl, rfl⟩
theorem Uj (w : WQ) (p : Nat) (hp : 2 <= p) (hp1 : p <= 256) (hpr : ∀ d, 2 <= d -> d < p -> p % d ≠ 0) : cQ 159 #[iv p] w (Ba (.bool true) w) := by
 unfold iv
 have g0 := sK hpr
 clear hpr
 go_enter Tryz.func159, Tryz.ntmps159
 go_wp2
 go_loop [3] (fun dv => ∃ d : Nat, 2 <= d ∧ d <= 17 ∧ dv = nQ d) (fun dv => 17 - (intOf dv).toNat)
 case atStart => exact ⟨2, by omega, by omega, rfl⟩
 case round =>
  obtain ⟨d, hd, t0, rfl⟩ := hrel; have hb := Et (a := d) (b := d) (by omega) (by omega); have e1 : (d : Int) * (d : Int) = ((d * d : Nat) : Int) := by rw [Yq]
  by_cases hlt : d * d <= p
  ·have h9 : 2 * d <= d * d := qct d hd
   have h8 : d < 17 := by
    rcases Nq d 17 with h | h
    ·exact h
    ·have : 17 * 17 <= d * d := qbx h h
     omega
   have h7 := g0 d hd (by omega); have e2 : (p : Int) % (d : Int) = ((p % d : Nat) : Int) := (qcf _ _).symm; have hr : p % d < d := qu _ (by omega); generalize p % d = r at *; generalize d * d = dd at *; have x0 : 0 < (r : Int) := by omega
   clear h9; go_wp2; go_round
   case rel => exact ⟨d + 1, by omega, by omega, by go_num⟩
   case measure => simp [intOf]; omega
  ·generalize d * d = dd at *
   go_wp2; go_ret; exact ⟨by simp; omega, rfl⟩
theorem Tx {F : FD} (h : F.Ok) : ∀ x ∈ modL F, x < F.p := by
 intro x hx
 unfold modL at hx
 split at hx
 ·cases hx
 ·exact Dy h.p0 _ _ x hx
theorem Sa (w : WQ) (F : FD) (h : F.Ok) (A : OQ) (c : Nat) (hmod : RdN w A (modL F).length c (modL F)) : cQ 101 #[Ax F A c] w (Ah (.bool true) w) := by
 obtain ⟨l0, hq, e0, j0, i0⟩ := h.bd
 have c0 := sK (Fp F)
 have f0 := sK (Tx h)
 have a0 := fun w => Jd w F h
 have d0 := fun w => Uj w F.p e0 (by omega) h.prime
 have h0 := hmod.le63
 unfold Ax iv at *
 have w0 : ((F.q : Int) == 0) = false := by rw [beq_eq_false_iff_ne]; omega
 by_cases hm0 : F.m = 0
 ·have h1 : (modL F).length = 0 := by rw [c0.out, if_pos hm0]
  rw [h1]; rw [hm0] at a0 ⊢; clear h1 hm0; go_enter Tryz.func101, Tryz.ntmps101; go_wp2_with (first | (go_at_call 103; refine (a0 _).mono ?_; rintro e w' ⟨rfl, rfl⟩) | (go_at_call 159; refine (d0 _).mono ?_; rintro e w' ⟨rfl, rfl⟩)); go_ret; exact ⟨rfl, Ac _ _⟩
 ·have h1 : (modL F).length = F.m + 1 := by rw [c0.out, if_neg hm0]
  rw [h1] at h0 hmod ⊢; have n0 : 1 < F.m + 1 := by omega
  generalize F.m + 1 = M at *; have v0 : ((M : Int) == 1) = false := by rw [beq_eq_false_iff_ne]; omega
  clear h1 hm0; have hB := fun o => hmod.below (Ac w o)
  go_enter Tryz.func101, Tryz.ntmps101; go_wp2_with (first | (go_at_call 103; refine (a0 _).mono ?_; rintro e w' ⟨rfl, rfl⟩) | (go_at_call 159; refine (d0 _).mono ?_; rintro e w' ⟨rfl, rfl⟩)); go_loop [33] (fun kv => ∃ k : Nat, k <= M ∧ kv = nQ k) (fun kv => M - (intOf kv).toNat)
  case atStart => exact ⟨0, qe _, rfl⟩
  case round =>
   obtain ⟨k, hk, rfl⟩ := hrel
   by_cases hlt : k < M
   ·obtain ⟨b, y0, rfl, _, r0⟩ := hmod.at hlt
    have hx : (modL F).getD k 0 < F.p := f0 _ (Ap (by rw [hmod.len]; exact hlt) _); generalize (modL F).getD k 0 = x at *; have q0 : b < w.heap.size := by assumption
    go_wp2; go_round
    case rel => exact ⟨k + 1, by omega, by go_num⟩
    case measure => simp [intOf]; omega
   ·obtain rfl : k = M := by omega
    go_wp2; go_ret; exact ⟨rfl, Ac _ _⟩
theorem Fq.FD.Ok.x1 {F : FD} (h : F.Ok) : 1 <= F.x := by
 rcases Xq F.x with h0 | h0
 ·have h1 := h.ord
  have hq := h.q2; rw [h0, show F.q - 1 = (F.q - 2) + 1 by omega, FD.pw, h.mul_zero] at h1; omega
 ·exact h0
theorem Diff.gen {F : FD} (h : F.Ok) {n : Nat} (hd : Diff F F.x n) (he : F.pw F.x n = 0 ∨ F.pw F.x n ∈ F.exps F.x n) : n = F.q - 1 := by
 have z1 := hd.le h
 rcases Nq n (F.q - 1) with h1 | h1
 ·exfalso
  rcases he with he | he
  ·exact h.pw_ne n he
  ·obtain ⟨i, hi, e⟩ := qz.1 he
   have y1 : i < n := by simpa using hi
   have := h.pw_inj (by omega) h1 e; omega
 ·omega
theorem Diff.notGen {F : FD} (h : F.Ok) {y : Nat} (hy0 : 1 <= y) (hy : y < F.x) (hd : Diff F y (F.q - 1)) : F.mul (F.pw y (F.q - 2)) y ≠ 1 := by
 have hq := h.q2
 intro e
 have e' : F.pw y (F.q - 1) = 1 := by rw [show F.q - 1 = (F.q - 2) + 1 by omega]; exact e
 refine h.first y hy0 hy ⟨e', fun k n1 o1 e2 => ?_⟩
 exact hd.2 0 k n1 o1 e2.symm
theorem Jz (w : WQ) (F : FD) (hF : F.Ok) (A : OQ) (c : Nat) (hmod : RdN w A (modL F).length c (modL F)) :
  cQ 102 #[Ax F A c, iv F.q] w fun e w' => ∃ g cc, e = .returned (.slice (sQ g) (F.q - 1) cc) ∧ OwnN w' w.heap.size (sQ g) (F.q - 1) cc (F.exps F.x (F.q - 1)) ∧ Below w.heap.size w w' := by
 obtain ⟨h2, hq, f2, g2, a2⟩ := hF.bd
 have j2 := hF.x1
 have k2 := hF.xq
 obtain ⟨mL, w0⟩ := xQ ((modL F).length)
 obtain ⟨M, hM⟩ := xQ (F.m + 1)
 have e1 : Ax F A c = .agg #[nQ F.p, nQ M, .slice A mL c] := by rw [hM, w0]; rfl
 have hmul : ∀ w', Below w.heap.size w w' -> ∀ y, y < F.q -> ∀ x, x < F.q -> cQ 161 #[.agg #[nQ F.p, nQ M, .slice A mL c], nQ y, nQ x] w' (Ah (.int .i64 ((F.mul y x : Nat) : Int)) w') := fun w' hb y hy x hx => by
  rw [<- e1]; exact Lk w' F hF A c (hmod.below hb) y x hy hx
 have z0 : ∀ w', Below w.heap.size w w' -> ∀ x, x < F.q -> cQ 160 #[.agg #[nQ F.p, nQ M, .slice A mL c], nQ F.q, nQ x] w' (aR F x w') := fun w' hb x hx => by
  rw [<- e1]; exact aJ w' F hF A c (hmod.below hb) x hx
 have d1 := sK hmul
 have g1 := sK z0
 rw [e1]
 unfold iv
 clear hmul z0 e1 hM w0 hmod
 go_enter Tryz.func102, Tryz.ntmps102
 go_wp2
 obtain ⟨W, hW⟩ := xQ (w.alloc (.cells #[nQ F.p, nQ M, .slice A mL c] 24))
 have w1 : W.heap.size = w.heap.size + 1 := by rw [hW]; simp
 have j0 : Below w.heap.size w W := by rw [hW]; exact Ac _ _
 have hC : ∀ wx, From W wx -> wx.cell? ⟨w.heap.size, 0, none⟩ = some (nQ F.p) ∧ wx.cell? ⟨w.heap.size, 1, none⟩ = some (nQ M) ∧ wx.cell? ⟨w.heap.size, 2, none⟩ = some (.slice A mL c) := fun wx hx => by
  refine ⟨?_, ?_, ?_⟩
  all_goals
   rw [Below.cell hx (by simp only; omega), hW]; go_simp
 have HC := sK hC
 rw [<- hW]
 clear hW hC
 go_loopw [5] (fun xv wr => ∃ y : Nat, xv = nQ y ∧ 1 <= y ∧ y <= F.x ∧ From W wr) (fun xv _ => F.x - (intOf xv).toNat)
 case atStart => exact ⟨1, rfl, by omega, by omega, From.refl W⟩
 case round =>
  obtain ⟨y, rfl, r1, l2, d0⟩ := hrel; obtain ⟨n0, o0, q0⟩ := HC wr d0; have l0 : Below w.heap.size w wr := j0.trans (qf d0 (by omega)); have a1 : y < F.q := by omega
  have y0 := g1 wr l0 y a1; go_wp2_with (go_at_call 160; refine y0.mono ?_; rintro e w2 ⟨n, g, cc, c2, hd, he, rfl, hO, l1⟩); clear y0; have a0 : From W w2 := Aa l1 d0; obtain ⟨r0, t0, v0⟩ := HC w2 a0; have m0 : Below w.heap.size w w2 := j0.trans (qf a0 (by omega)); have s1 : IntKind.i64.wrap ((F.q : Int) - 1) = ((F.q - 1 : Nat) : Int) := by rw [show (F.q : Int) - 1 = ((F.q - 1 : Nat) : Int) by omega]; exact Ay (by omega)
  by_cases hn : n = F.q - 1
  ·subst hn
   have f0 := hO.cell (k := F.q - 2) (by omega); rw [F.exps_get y (show F.q - 2 < F.q - 1 by omega)] at f0; have t1 : IntKind.i64.wrap ((F.q : Int) - 2) = ((F.q - 2 : Nat) : Int) := by rw [show (F.q : Int) - 2 = ((F.q - 2 : Nat) : Int) by omega]; exact Ay (by omega)
   have x0 := fun w' h9 => d1 w' h9 (F.pw y (F.q - 2)) (hF.pw_lt _ _) y a1
   have f1 : Hid (y < F.x -> F.mul (F.pw y (F.q - 2)) y ≠ 1) := sK fun h9 => hd.notGen hF r1 h9
   have HG : Hid (y = F.x -> F.mul (F.pw y (F.q - 2)) y = 1) := sK fun h9 => by
    subst h9; have := hF.ord
    rwa [show F.q - 1 = (F.q - 2) + 1 by omega] at this
   have j1 := hO; have HO := sK hO; have c1 := sK x0; have i2 : F.q - 2 < F.q - 1 := by omega
   clear hd he hO j1 x0; generalize F.pw y (F.q - 2) = Y at *; generalize F.mul Y y = Z at *; obtain ⟨bb, e0⟩ : ∃ bb, ((Z : Int) == 1) = bb := ⟨_, rfl⟩
   have b1 := sK f0; have b0 := sK m0; have m1 : g < w2.heap.size := by
    obtain ⟨g9, h9, _, u1⟩ := HO.block (by omega); simp only [qc, qd, and_true] at h9; omega
   have i1 : From w2 w2 := From.refl w2; have HD := sK (And.intro r0 (And.intro t0 v0)); have c0 : Hid (w.heap.size < w2.heap.size) := sK (by have := a0; have := Below.size a0; omega); clear f0 m0 r0 t0 v0 n0 o0 q0; have v1 : F.q - 1 <= 256 := by omega
   generalize F.q - 2 = q2 at *; generalize hq1 : F.q - 1 = q1 at *; have i0 := sK hq1; clear hq1; refine wpT 16 33 [.v (.slice (sQ g) q1 cc), .v (nQ q1), .v (nQ F.q), .v (nQ q1), .v (.bool true), .v (.bool true), .v (.agg #[nQ F.p, nQ M, .slice A mL c]), .v (.slice (sQ g) q1 cc), .v (nQ F.q), .v (nQ q2), .v (.pointer (some ⟨g, q2, none⟩)), .v (nQ Y), .v (nQ y), .v (nQ Z), .v (.bool bb), .v (.bool bb)] w2 (by kernel_rfl) (by kernel_rfl) (by kernel_rfl) rfl (From.drew i1) ?_; simp only [Tk]
   iterate 16 (refine .z (fun wx hx _ hK => by first | (go_simp; exact Kz hK) | (have n0 := (hx.cell (p := ⟨w.heap.size, 0, none⟩) c0.out).trans HD.out.1; have o0 := (hx.cell (p := ⟨w.heap.size, 1, none⟩) c0.out).trans HD.out.2.1; have q0 := (hx.cell (p := ⟨w.heap.size, 2, none⟩) c0.out).trans HD.out.2.2; go_simp; exact Kz hK) | (have hc := (hx.cell (p := ⟨g, q2, none⟩) m1).trans b1.out; go_simp; exact Kz hK) | (go_simp; refine (c1 wx (b0.trans (hx.mono (by have := b0.size; omega)))).mono ?_; rintro e w' ⟨rfl, k1⟩; exact hK.out _ _ rfl k1)) ?_; simp only [Pt])
   refine .nil fun W5 g0 _ => ?_
   cases bb with
   | true =>
    have hy : y = F.x := by
     rcases Nq y F.x with h9 | h9
     ·have := f1 h9
      have : Z = 1 := by have := beq_iff_eq.1 e0; omega
      contradiction
     ·omega
    subst hy; go_wp2; go_ret; refine ⟨g, cc, by rw [i0.out]; rfl, ?_, ?_⟩
    ·rw [i0.out]; exact (HO.below g0).mono l0.size
    ·exact b0.trans (g0.mono b0.size)
   | false =>
    have hy : y < F.x := by
     rcases Nq y F.x with h9 | h9
     ·exact h9
     ·have h8 := HG (by omega)
      rw [h8] at e0; simp at e0
    go_wp2; go_roundw
    case rel => exact ⟨y + 1, by go_num, by omega, by omega, Aa g0 a0⟩
    case measure => simp [intOf]; omega
  ·have hy : y < F.x := by
    rcases Nq y F.x with h9 | h9
    ·exact h9
    ·obtain rfl : y = F.x := by omega
     exact absurd (hd.gen hF he) hn
   have hg : ((n : Int) == ((F.q - 1 : Nat) : Int)) = false := by rw [beq_eq_false_iff_ne]; omega
   have d2 := hd.le hF; clear hd he hn hO; generalize F.q - 1 = q1 at *; go_quiet (fail); go_wp2; go_roundw
   case rel => exact ⟨y + 1, by go_num, by omega, by omega, (show From W _ from (Ae a0 _))⟩
   case measure => simp [intOf]; omega
end Go.Proofs.YtoalkldfhkabnaaGreatDoor
