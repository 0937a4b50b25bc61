/- Part of WholeTraces. -/
import Derived.Deep.Cut
import Derived.Deep.CutRange
import Derived.LoopN
import Derived.Deep.RegionHeldLaw
import Derived.Test.YtoalkldfhkabnaaGreatDoorW00
import Derived.Test.YtoalkldfhkabnaaGreatDoorW10
import Derived.Test.YtoalkldfhkabnaaGreatDoorW34
import Derived.Test.YtoalkldfhkabnaaGreatDoorW35
set_option linter.all false
set_option maxRecDepth 10000
set_option maxHeartbeats 16000000
namespace Go.Proofs.YtoalkldfhkabnaaGreatDoor
open Go.RowKit Fq
theorem OwnN.kept' {w w' : WQ} {base n c : Nat} {A : OQ} {l : NQ} (h : OwnN w base A n c l) {r : Option Nat} (hg : w.grownBy w' r) (hn : ∀ x, A = sQ x -> r ≠ some x) : OwnN w' base A n c l := by
 refine ⟨h.row.kept hg ?_, h.sm⟩
 rcases h.form with ⟨h1, h2, h3⟩ | ⟨g, h1, _⟩
 ·subst h1; exact .inl (by simp [Value.ownBlock])
 ·subst h1; exact .inr fun e => hn g rfl e.symm
def qS (base h n : Nat) (us : VQ) (S : LQ) (w : WQ) (e : Ending) (w' : WQ) : Prop :=
 ∃ A pc d, e = .returned (.tuple #[.slice A n pc, .int .i64 d]) ∧ Az w' base h n n us S ∧ Below base w w'
theorem rQ (w0 w : WQ) (b : Nat) (F : FD) (hGF : GFat w0 b F) (h0 : Below w0.heap.size w0 w) (hi1 : F.inv 1 = 1) (base g h n : Nat) (hb0 : w0.heap.size <= base) (vs us : VQ) (R0 S0 : LQ) (hG : Az w base g n n vs R0) (hH : Az w base h n n us S0) (hOk : GjOk F n (R0, S0)) (hn0 : 0 < n) (hn9 : n <= 1000) (hgh : g ≠ h)
  (hd1 : ∀ j b, j < n -> (vs.getD j undef).ownBlock = some b -> b ≠ h ∧ ∀ i, i < n -> (us.getD i undef).ownBlock ≠ some b) (f2 : ∀ j b, j < n -> (us.getD j undef).ownBlock = some b -> b ≠ g) (hpiv : ∀ c, c < n -> ent (gj F n c (R0, S0)).1 c c = 1) :
  cQ 123 #[pQ b, .slice (sQ g) n n, nQ n, .slice (sQ h) n n] w (qS base h n us (gj F n n (R0, S0)).2 w) := by
 obtain ⟨i0, h7, y7, a8, b8⟩ := info_parts Bj
 have z0 := hGF.ok
 have hq := z0.q256
 have s8 := z0.q2
 have g7 := z0.fldOk
 have x3 : Hid (∀ c, c <= n -> GjOk F n (gj F n c (R0, S0))) := sK fun c hc => dD z0 hOk c hc
 have o8 := hG.head
 have p8 := hH.head
 have t3 := sK hGF
 have H0 := sK h0
 have v6 : base <= w.heap.size := by omega
 have t2 : Hid (∀ j b, j < n -> (vs.getD j undef).ownBlock = some b -> base <= b ∧ b < w.heap.size) := sK fun j b hj e => hG.blkLt hj e
 have c4 : Hid (∀ j b, j < n -> (us.getD j undef).ownBlock = some b -> base <= b ∧ b < w.heap.size) := sK fun j b hj e => hH.blkLt hj e
 have u3 : Hid (∀ wx, Below base w wx -> GFat wx b F) := sK fun wx hx => hGF.keep (h0.trans (qf hx hb0)) (qb _)
 have s3 := sK hd1
 have z5 := sK f2
 have m6 := sK hpiv
 have f6 := sK hi1
 clear hd1 f2 hpiv hi1
 go_enter Tryz.func123, Tryz.ntmps123
 go_wp2
 obtain ⟨W, hW⟩ := xQ (((w.alloc (.cells #[pQ b] 56)).alloc (.cells #[.slice (sQ g) n n] 25)).alloc (.cells #[.slice (sQ h) n n] 25))
 have d8 : W.heap.size = w.heap.size + 3 := by rw [hW]; simp
 have y2 : Below w.heap.size w W := by rw [hW]; exact (((bR).alloc (qb _) _).alloc (by simp) _).alloc (by simp; omega) _
 have g4 : Bxs W [(w.heap.size, pQ b), (w.heap.size + 1, .slice (sQ g) n n), (w.heap.size + 1 + 1, .slice (sQ h) n n)] := by
  rw [hW]; refine ((Bxs.nil.cons ?_ ?_ ?_).cons ?_ ?_ ?_).cons ?_ ?_ ?_ <;> first | (simp; omega) | go_simp
 rw [<- hW]
 clear hW
 go_loopw [10, 12, 13] (fun dv pv cv wr => ∃ (c : Nat) (A : OQ) (pc d : Nat), c <= n ∧ cv = nQ c ∧ pv = .slice A c pc ∧ dv = nQ d ∧ d < F.q ∧
   OwnN wr W.heap.size A c pc (List.range c) ∧ Az wr base g n n vs (gj F n c (R0, S0)).1 ∧ Az wr base h n n us (gj F n c (R0, S0)).2 ∧
   Bxs wr [(w.heap.size, pQ b), (w.heap.size + 1, .slice (sQ g) n n), (w.heap.size + 1 + 1, .slice (sQ h) n n)] ∧ Below base w wr ∧ W.heap.size <= wr.heap.size) (fun _ _ cv _ => n - (intOf cv).toNat)
 case atStart =>
  exact ⟨0, none, 0, 1, qe _, rfl, rfl, rfl, by omega, OwnN.nil _ _, hG.below y2, hH.below y2, g4, y2.mono v6, qb _⟩
 case round =>
  clear g4 hG hH; obtain ⟨c, A, pc, d, hc, rfl, rfl, rfl, hd, hP, hG, hH, x0, hB, q7⟩ := hrel; have l7 := hP.le; unfold maxLen at l7; obtain ⟨n4, _, _⟩ := x0 _ (.head _); obtain ⟨p4, _, _⟩ := x0 _ (.tail _ (.head _)); obtain ⟨r4, _, _⟩ := x0 _ (.tail _ (.tail _ (.head _))); simp only at n4 p4 r4
  by_cases hcc : c = n
  ·have a3 : ¬ c < n := by omega
   have hf : qS base h n us (gj F n n (R0, S0)).2 w (.returned (.tuple #[.slice A c pc, nQ d])) wr := by
    refine ⟨A, pc, d, by rw [hcc], ?_, hB⟩; rw [hcc] at hH; exact hH
   have HF := sK hf; clear hf hP hG hH x0 hB hcc; go_wp2; go_ret2; exact HF.out
  ·have m8 : (c : Int) < (n : Int) := by omega
   have n0 : c < n := by omega
   obtain ⟨g5, j7, t1, i2⟩ := x3 c hc; have i5 := m6 c n0; obtain ⟨wo, rfl⟩ := xQ wr; have z3 : Hid (∀ (wx : WQ) (S : LQ), Az wx base g n n vs S -> Mat F.fld n S -> S.length = n -> ∀ i, i < n -> ∃ b1 d1, wx.cell? ⟨g, i, none⟩ = some (.slice (sQ b1) n d1) ∧ wx.cell? ⟨b1, c, none⟩ = some (nQ (ent S i c)) ∧ n <= d1 ∧ d1 <= maxLen ∧ vs.getD i undef = .slice (sQ b1) n d1) := sK fun wx S l0 i3 o7 i e0 => by
    have f3 : (S.getD i []).length = n := Mat.len i3 (by omega); obtain ⟨b1, d1, h1, h2, h3, h4, h5⟩ := l0.row e0 (by omega); rw [f3] at h1 h2 h5; exact ⟨b1, d1, h2, h5.cell n0, h5.le.1, h5.le.2, h1⟩
   have n6 : Hid (∀ (wx : WQ) (S : LQ), Az wx base h n n us S -> Mat F.fld n S -> S.length = n -> ∀ i, i < n -> ∃ b1 d1, us.getD i undef = .slice (sQ b1) n d1) := sK fun wx S l0 i3 o7 i e0 => by
    have f3 : (S.getD i []).length = n := Mat.len i3 (by omega); obtain ⟨b1, d1, h1, _⟩ := l0.row e0 (by omega); rw [f3] at h1; exact ⟨b1, d1, h1⟩
   obtain ⟨b1, d1, u1, r0, m7, n7, a1⟩ := z3 wo _ hG t1 g5 c n0; rw [i5] at r0; have f8 := t2 c b1 n0 (by rw [a1]; rfl); have j8 : (c : Int) < (d1 : Int) := by omega
   have x8 : w.heap.size + 3 <= wo.heap.size := by omega
   have HP := sK hP; have HG := sK hG; have HH := sK hH; have c0 := sK x0; have HB := sK hB; clear hP hG hH x0 hB hcc i5 a1 t1 i2 g5 j7; go_upto_region 9 with fail
   obtain ⟨W1, o1⟩ := xQ (((wo.alloc (.cells #[nQ c] 3)).alloc (.cells #[nQ c] 3))); have s6 : W1.heap.size = wo.heap.size + 2 := by rw [o1]; simp
   have l4 : From wo W1 := by rw [o1]; exact ((bR).alloc (qb _) _).alloc (by simp) _
   have x2 : Bxs W1 [(wo.heap.size, nQ c), (wo.heap.size + 1, nQ c)] := by
    rw [o1]; refine (Bxs.nil.cons ?_ ?_ ?_).cons ?_ ?_ ?_ <;> first | (simp; done) | go_simp
   rw [<- o1]; have HC : Hid (∀ wx, From W1 wx -> wx.cell? ⟨w.heap.size, 0, none⟩ = some (pQ b) ∧ wx.cell? ⟨w.heap.size + 1, 0, none⟩ = some (.slice (sQ g) n n) ∧ wx.cell? ⟨w.heap.size + 1 + 1, 0, none⟩ = some (.slice (sQ h) n n) ∧ wx.cell? ⟨wo.heap.size, 0, none⟩ = some (nQ c) ∧ wx.cell? ⟨wo.heap.size + 1, 0, none⟩ = some (nQ c) ∧ wx.cell? ⟨g, c, none⟩ = some (.slice (sQ b1) n d1) ∧ wx.cell? ⟨b1, c, none⟩ = some (.int .i64 1)) := sK fun wx hx => by
    have f0 := Aa hx l4; have h3 := c0.below f0; have h4 := x2.below hx; exact ⟨(h3 _ (.head _)).1, (h3 _ (.tail _ (.head _))).1, (h3 _ (.tail _ (.tail _ (.head _)))).1, (h4 _ (.head _)).1, (h4 _ (.tail _ (.head _))).1, (f0.cell (p := ⟨g, c, none⟩) (by simp only; omega)).trans u1, (f0.cell (p := ⟨b1, c, none⟩) (by simp only; omega)).trans r0⟩
   have w1 := sK l4; have f1 := sK x2; clear o1 x2 n4 p4 r4 u1 r0; obtain ⟨q0, q1, q2, q3, q4, q5, q6⟩ := HC W1 (From.refl _); have r8 : ((1 : Int) == 0) = false := by decide
   refine wp_loop_rounds 1 ?_; rw [rounds_succ]; have e7 : c < 1000000 := by omega
   have l8 : ((c : Int) == (n : Int)) = false := by simp; omega
   have n8 : ((c : Int) != (c : Int)) = false := by simp
   clear s6; go_upto_region 15 with fail
   clear q0 q1 q2 q3 q4 q5 q6; have s2 : Hid (∀ wx, From W1 wx -> cQ 108 #[pQ b, nQ d, .int .i64 1] wx (Bs (iv (F.mul d 1)) wx)) := sK fun wx hx => Fy wx b F (u3 wx (HB.trans (qf (Aa hx w1.out) (by omega)))) d 1 hd (by omega)
   have r2 : Hid (∀ wx, From W1 wx -> cQ 177 #[pQ b, .int .i64 1] wx (Bs (.tuple #[iv 1, iv 0]) wx)) := sK fun wx hx => by
    have h9 := Pc wx b F (u3 wx (HB.trans (qf (Aa hx w1.out) (by omega)))) 1 (by omega) (by omega); rw [f6.out] at h9; exact h9
   have f2 : F.mul d 1 < F.q := z0.mul_lt _ _; generalize F.mul d 1 = d2 at *; unfold iv at s2 r2; have i4 : From W1 W1 := From.refl W1; refine wpT 11 125 [.v (pQ b), .v (nQ d), .v (.slice (sQ g) n n), .v (nQ c), .v (.pointer (some ⟨g, c, none⟩)), .v (.slice (sQ b1) n d1), .v (nQ c), .v (.pointer (some ⟨b1, c, none⟩)), .v (.int .i64 1), .v (nQ d2), .v (nQ d2)] W1 (by kernel_rfl) (by kernel_rfl) (by kernel_rfl) rfl (From.drew i4) ?_; simp only [Tk]
   iterate 11 (refine .z (fun wx hx _ hK => by first | (go_simp; exact Kz hK) | (obtain ⟨x6, y6, z6, a7, b7, c7, d7⟩ := HC wx hx; go_simp; exact Kz hK) | (go_simp; refine (s2 wx hx).mono ?_; rintro e w' ⟨rfl, j, rfl⟩; exact hK.out _ _ rfl (Ae (bR) _))) ?_; simp only [Pt])
   refine .nil fun w5 o5 _ => ?_
   go_upto_region 16 with fail
   refine wpL 13 125 [(11, 9, 75)] [.v (pQ b), .v (.slice (sQ g) n n), .v (nQ c), .v (.pointer (some ⟨g, c, none⟩)), .v (.slice (sQ b1) n d1), .v (nQ c), .v (.pointer (some ⟨b1, c, none⟩)), .v (.int .i64 1), .v (.tuple #[.int .i64 1, zQ]), .v (.tuple #[.int .i64 1, zQ]), .v (.int .i64 1), .v (zQ), .r (Oh W1.heap.size (zQ)) Oh.lasting] W1 (by kernel_rfl) (by kernel_rfl) (by kernel_rfl) (by kernel_rfl) rfl (From.drew o5) (fun x r5 => ?_) (fun _ _ d9 _ _ h => by cases d9 <;> exact h) ?_
   ·simp only [qx, Kq, or_false] at r5
    rcases r5 with rfl
    ·intro a9 o9 v9 wx ho hx hv he
     obtain rfl := Aq ho; obtain rfl : v9 = _ := (hv : (IsV (.tuple #[.int .i64 1, zQ])) v9 wx)
     exact ⟨zQ, Or.inl ⟨rfl, fun w9 => by simp only [execOp, he]; rfl⟩, rfl⟩
   simp only [Tk]
   iterate 12 (refine .z (fun wx hx _ hK => by first | (go_simp; exact Kz hK) | (obtain ⟨x6, y6, z6, a7, b7, c7, d7⟩ := HC wx hx; go_simp; exact Kz hK) | (go_simp; refine (r2 wx hx).mono ?_; rintro e w' ⟨rfl, j, rfl⟩; exact hK.out _ _ rfl (Ae (bR) _))) ?_; simp only [Pt])
   refine .r (fun wx hx hd KK hK => ?_) (fun y8 => ?_)
   ·clear hd
    go_simp; exact hK.out _ _ ⟨_, rfl, hx.size, Bxs.new _ _ _⟩ (Ac _ _)
   simp only [Pt]; refine .nil fun w6 l3 hd => ?_
   obtain ⟨s5, rfl, f4, o3⟩ := hd _ (.head _); clear hd; have c8 := sK o3; obtain ⟨j5, k5, l5⟩ := o3 _ (.head _); simp only at j5 k5 l5; clear o3; have v7 := l3.size; go_upto_if 92 with fail
   obtain ⟨w7, k3⟩ : ∃ x, x = w6.setCell ⟨s5, 0, none⟩ (.int .i64 1) := ⟨_, rfl⟩
   have t0 : From W1 w7 := by rw [k3]; exact l3.setCell (p := ⟨s5, 0, none⟩) f4 _
   rw [<- k3]; clear k3 j5 k5; have b0 := Aa t0 w1.out; obtain ⟨st, l2⟩ := xQ (gj F n c (R0, S0)); have a4 := sK l2; have o2 := sK (HG.below b0); have p2 := sK (HH.below b0); have y3 := sK (HP.below b0); have r3 := sK (HB.trans (qf b0 (by omega))); have p3 : Hid (Bxs w7 [(w.heap.size, pQ b), (w.heap.size + 1, .slice (sQ g) n n), (w.heap.size + 1 + 1, .slice (sQ h) n n), (wo.heap.size, nQ c)]) := sK (((((Bxs.nil.cons ((f1.below t0) _ (.head _)).1 ((f1.below t0) _ (.head _)).2.1 ((f1.below t0) _ (.head _)).2.2).cons ((c0.below b0) _ (.tail _ (.tail _ (.head _)))).1 ((c0.below b0) _ (.tail _ (.tail _ (.head _)))).2.1 ((c0.below b0) _ (.tail _ (.tail _ (.head _)))).2.2).cons ((c0.below b0) _ (.tail _ (.head _))).1 ((c0.below b0) _ (.tail _ (.head _))).2.1 ((c0.below b0) _ (.tail _ (.head _))).2.2).cons ((c0.below b0) _ (.head _)).1 ((c0.below b0) _ (.head _)).2.1 ((c0.below b0) _ (.head _)).2.2)); have k4 : GjOk F n st := by rw [l2]; exact x3 c hc
   rw [<- l2] at o2 p2; obtain ⟨q0, q1, q2, q3, q4, q5, q6⟩ := HC w7 t0; have v8 : W.heap.size <= w7.heap.size := qs q7 b0.size; have w8 : wo.heap.size + 2 <= w7.heap.size := by have := t0.size; have := w1.size; have := (f1 _ (.tail _ (.head _))).2.2; simp only at this; omega
   have k6 := sK k4; clear t0 v7 l3 o5 i4 l2 f4 l5 b0 s2 r2 HG HH HP HB c0 f1 k4; go_upto_region 20 with fail
   clear q0 q1 q2 q3 q4 q5 q6
   go_loopw [98] (fun n3 wr => ∃ i, i <= n ∧ n3 = nQ i ∧ Az wr base g n n vs (gjr F c i st).1 ∧ Az wr base h n n us (gjr F c i st).2 ∧ Bxs wr [(w.heap.size, pQ b), (w.heap.size + 1, .slice (sQ g) n n), (w.heap.size + 1 + 1, .slice (sQ h) n n), (wo.heap.size, nQ c)] ∧ OwnN wr W.heap.size A c pc (List.range c) ∧ Below base w wr ∧ w7.heap.size <= wr.heap.size) (fun n3 _ => n - (intOf n3).toNat)
   case atStart => exact ⟨0, qe _, rfl, o2.out, p2.out, p3.out, y3.out, r3.out, qb _⟩
   case round =>
    clear o2 p2 p3 y3 r3; obtain ⟨i, q8, rfl, k1, l1, j0, y1, x1, r7⟩ := hrel; obtain ⟨u4, z2, x4, y4⟩ : wr.cell? ⟨w.heap.size, 0, none⟩ = some (pQ b) ∧ wr.cell? ⟨w.heap.size + 1, 0, none⟩ = some (.slice (sQ g) n n) ∧ wr.cell? ⟨w.heap.size + 1 + 1, 0, none⟩ = some (.slice (sQ h) n n) ∧ wr.cell? ⟨wo.heap.size, 0, none⟩ = some (nQ c) := ⟨(j0 _ (.head _)).1, (j0 _ (.tail _ (.head _))).1, (j0 _ (.tail _ (.tail _ (.head _)))).1, (j0 _ (.tail _ (.tail _ (.tail _ (.head _))))).1⟩
    by_cases r1 : i = n
    ·have i7 : ¬ (i : Int) < (n : Int) := by omega
     have i1 := sK k1; have j1 := sK l1; have v0 := sK y1; have m2 := sK j0; have c1 := sK x1; have g6 := sK r1; clear k1 l1 j0 x1 y1 r1; have l6 := sK (v0.alloc (.cells #[nQ c] 3)); go_wp2_with (at_builtin; refine Bl rfl (.tmp 119) (.tmp 121) 22 rfl i0 Tryz.underlying22 h7 y7 a8 b8 W.heap.size _ _ _ _ rfl l6 _ 0 c rfl (by go_simp) e7 (by omega) (by simp; omega) ?_; intro g' c2 w2 j4 d0 k7); have r1 : i = n := g6.out; have o0 : ∀ x, (Value.slice A c pc).ownBlock = some x -> W.heap.size <= x := fun x hx => (v0.row.lt x hx).1
     have c5 := (i1.alloc (.cells #[nQ c] 3)).kept d0 (fun e => by have := o0 g e; omega) (fun j b9 hj m0 e => by have := o0 b9 e; have := t2 j b9 hj m0; omega); have e5 := (j1.alloc (.cells #[nQ c] 3)).kept d0 (fun e => by have := o0 h e; omega) (fun j b9 hj m0 e => by have := o0 b9 e; have := c4 j b9 hj m0; omega); have t4 : Bxs w2 [(w.heap.size, pQ b), (w.heap.size + 1, .slice (sQ g) n n), (w.heap.size + 1 + 1, .slice (sQ h) n n)] := by
      refine Bxs.kept (Bxs.below (m2.sub fun p hp => ?_) (Ac wr (.cells #[nQ c] 3))) d0 fun p hp e => ?_
      ·simp only [qx, Kq, or_false] at hp ⊢
       rcases hp with rfl | rfl | rfl <;> simp
      ·have := o0 _ e
       simp only [qx, Kq, or_false] at hp
       rcases hp with rfl | rfl | rfl <;> (simp only at this; omega)
     have s4 : Below base w w2 := (c1.alloc (by omega) (.cells #[nQ c] 3)).grown d0 (by simp; omega) (fun x hx => by have := o0 x hx; omega); have p7 : W.heap.size <= w2.heap.size := by
      have := d0.size; simp at this; omega
     have c6 := sK c5; have e6 := sK e5; have u5 := sK t4; have v5 := sK s4; have j6 := sK j4; clear c5 e5 t4 s4 j4 d0 k7 o0; go_wp2; go_roundw
     case rel =>
      refine ⟨c + 1, _, _, d2, by omega, by go_num, rfl, rfl, f2, ?_, ?_, ?_, u5.out, v5.out, p7⟩
      ·rw [qaj]; exact j6.out
      ·show Az _ _ _ _ _ _ (gjr F c n (gj F n c (R0, S0))).1
       have h9 := c6.out; rw [r1] at h9; rw [<- a4.out]; exact h9
      ·show Az _ _ _ _ _ _ (gjr F c n (gj F n c (R0, S0))).2
       have h9 := e6.out; rw [r1] at h9; rw [<- a4.out]; exact h9
     case measure => simp [intOf]; omega
    ·have i7 : (i : Int) < (n : Int) := by omega
     have e0 : i < n := by omega
     obtain ⟨t1, i2, j2, g3⟩ := aQ z0 n0 k6 i (by omega); obtain ⟨b3, d3, u1, r0, m7, n7, a1⟩ := z3 wr _ k1 j2 t1 i e0; obtain ⟨b4, d4, k2⟩ := n6 wr _ l1 g3 i2 i e0; have g8 := t2 i b3 e0 (by rw [a1]; rfl); have h8 := c4 i b4 e0 (by rw [k2]; rfl); have k8 : (c : Int) < (d3 : Int) := by omega
     have z4 : gjr F c (i + 1) st = if i = c then gjr F c i st else if ent (gjr F c i st).1 i c = 0 then gjr F c i st else
   ((gjr F c i st).1.set i (addRow F.fld ((gjr F c i st).1.getD i []) (F.neg (ent (gjr F c i st).1 i c)) ((gjr F c i st).1.getD c [])),
   (gjr F c i st).2.set i (addRow F.fld ((gjr F c i st).2.getD i []) (F.neg (ent (gjr F c i st).1 i c)) ((gjr F c i st).2.getD c []))) := rfl
     have m3 : ent (gjr F c i st).1 i c < F.q := j2.lt g7 i c; have v1 := sK z4; obtain ⟨x, p5⟩ := xQ (ent (gjr F c i st).1 i c); rw [<- p5] at r0 m3 v1; have h6 := sK j2; have i6 := sK g3; have i1 := sK k1; have j1 := sK l1; have v0 := sK y1; have m2 := sK j0; have c1 := sK x1; have u8 : wo.heap.size + 2 <= wr.heap.size := by omega
     clear z4 p5 t1 i2 j2 g3 k1 l1 y1 j0 x1; go_upto_region 22 with fail
     obtain ⟨V1, m1⟩ : ∃ x, x = wr.alloc (.cells #[nQ i] 3) := ⟨_, rfl⟩
     have z1 : From wr V1 := by rw [m1]; exact Ac _ _
     have u2 : Bxs V1 [(wr.heap.size, nQ i)] := by rw [m1]; exact Bxs.new _ _ _
     have o6 : V1.heap.size = wr.heap.size + 1 := by rw [m1]; simp
     rw [<- m1]; have s7 : V1.cell? ⟨w.heap.size + 1, 0, none⟩ = some (.slice (sQ g) n n) := (z1.cell (p := ⟨w.heap.size + 1, 0, none⟩) (by simp only; omega)).trans z2; have t7 : V1.cell? ⟨g, i, none⟩ = some (.slice (sQ b3) n d3) := (z1.cell (p := ⟨g, i, none⟩) (by simp only; omega)).trans u1; have u7 : V1.cell? ⟨b3, c, none⟩ = some (nQ x) := (z1.cell (p := ⟨b3, c, none⟩) (by simp only; omega)).trans r0; obtain ⟨m5, _, _⟩ := u2 _ (.head _); simp only at m5; have t5 := sK u2; clear m1 u2; go_upto_region 23 with fail
     obtain ⟨V2, n1⟩ : ∃ x9, x9 = V1.alloc (.cells #[nQ x] 3) := ⟨_, rfl⟩
     have p6 : From V1 V2 := by rw [n1]; exact Ac _ _
     have v2 : Bxs V2 [(V1.heap.size, nQ x), (wr.heap.size, nQ i)] := by
      rw [n1]; have := t5.below (Ac V1 (.cells #[nQ x] 3)) _ (.head _); have h9 := Bxs.new V1 (nQ x) 3 _ (.head _); exact (Bxs.nil.cons this.1 this.2.1 this.2.2).cons h9.1 h9.2.1 h9.2.2
     have r6 : V2.heap.size = V1.heap.size + 1 := by rw [n1]; simp
     rw [<- n1]; rw [o6] at v2 r6; clear n1 s7 t7 u7 m5; obtain ⟨⟨n5, _, _⟩, ⟨f5, _, _⟩⟩ : (V2.cell? ⟨wr.heap.size + 1, 0, none⟩ = some (nQ x) ∧ _ ∧ _) ∧ (V2.cell? ⟨wr.heap.size, 0, none⟩ = some (nQ i) ∧ _ ∧ _) := ⟨v2 _ (.head _), v2 _ (.tail _ (.head _))⟩
     have a0 : From wr V2 := z1.trans (qf p6 (by omega)); have u6 := (a0.cell (p := ⟨w.heap.size + 1 + 1, 0, none⟩) (by simp only; omega)).trans x4; have t6 := (a0.cell (p := ⟨w.heap.size + 1, 0, none⟩) (by simp only; omega)).trans z2; have o4 := (a0.cell (p := ⟨w.heap.size, 0, none⟩) (by simp only; omega)).trans u4; have m4 := (a0.cell (p := ⟨wo.heap.size, 0, none⟩) (by simp only; omega)).trans y4; clear u4 z2 x4 y4 u1 r0; have n2 : Hid (∀ w9 k, V2.grownBy w9 k -> (∀ x, k = some x -> base <= x ∧ x < w.heap.size) -> Bxs w9 [(w.heap.size, pQ b), (w.heap.size + 1, .slice (sQ g) n n), (w.heap.size + 1 + 1, .slice (sQ h) n n), (wo.heap.size, nQ c)] ∧ OwnN w9 W.heap.size A c pc (List.range c) ∧ Below base w w9 ∧ w7.heap.size <= w9.heap.size) := sK fun w9 k l0 c3 => by
      refine ⟨(m2.below a0).kept l0 fun p hp e => ?_, (v0.below a0).kept' l0 fun x hx e => ?_, (c1.trans (qf a0 (by omega))).grown l0 (by omega) (fun k9 s1 => (c3 k9 s1).1), qs r7 (qs a0.size l0.size)⟩
      ·have := c3 _ e
       simp only [qx, Kq, or_false] at hp
       rcases hp with rfl | rfl | rfl | rfl <;> (simp only at this; omega)
      ·have h1 := c3 _ e
       have h2 := (v0.row.lt x (by rw [hx]; rfl)).1; omega
     by_cases hiL : i = c
     ·have e8 : ((i : Int) != (c : Int)) = false := by simp [hiL]
      have g0 : Hid (gjr F c (i + 1) st = gjr F c i st) := sK (by rw [v1.out, if_pos hiL]); clear hiL; go_wp2; go_roundw
      case rel =>
       obtain ⟨e1, e2, e3, e4⟩ := n2 V2 none (Uq _ _) (fun x h => by cases h); exact ⟨i + 1, by omega, by go_num, (by rw [g0.out]; exact i1.below a0), (by rw [g0.out]; exact j1.below a0), e1, e2, e3, e4⟩
      case measure => simp [intOf]; omega
     ·have i8 : ((i : Int) != (c : Int)) = true := by simp; omega
      by_cases f0 : x = 0
      ·have x7 : ((x : Int) != 0) = false := by simp [f0]
       have g0 : Hid (gjr F c (i + 1) st = gjr F c i st) := sK (by rw [v1.out, if_neg hiL, if_pos f0]); clear hiL f0; go_wp2; go_roundw
       case rel =>
        obtain ⟨e1, e2, e3, e4⟩ := n2 V2 none (Uq _ _) (fun x h => by cases h); exact ⟨i + 1, by omega, by go_num, (by rw [g0.out]; exact i1.below a0), (by rw [g0.out]; exact j1.below a0), e1, e2, e3, e4⟩
       case measure => simp [intOf]; omega
      ·have x7 : ((x : Int) != 0) = true := by simp; exact f0
       have a5 := Ks w0 V2 b F t3 (H0.trans (qf (c1.trans (qf a0 (by omega))) hb0)) base g n n hb0 vs _ (i1.below a0) n h6 hn0 hn9 i c (by omega) n0 hiL x m3 w.heap.size wr.heap.size (wr.heap.size + 1) wo.heap.size o4 f5 n5 m4 ⟨by omega, by omega, by omega, by omega⟩ b3 (by rw [a1]; rfl); have g0 := sK (show gjr F c (i + 1) st = _ by rw [v1.out, if_neg hiL, if_neg f0]); have y5 := sK a5; have j3 : b3 ≠ h ∧ ∀ j, j < n -> (us.getD j undef).ownBlock ≠ some b3 := s3 i b3 e0 (by rw [a1]; rfl); have a3 : ∀ w3, V2.grownBy w3 (some b3) -> cQ 179 #[.slice (sQ h) n n, pQ w.heap.size, pQ wr.heap.size, pQ (wr.heap.size + 1), pQ wo.heap.size] w3 (aL base h n n b4 us ((gjr F c i st).2.set i (addRow F.fld ((gjr F c i st).2.getD i []) (F.neg x) ((gjr F c i st).2.getD c []))) w3) := fun w3 d0 => by
        have a2 : ∀ p : Nat, p < V2.heap.size -> p ≠ b3 -> ∀ v, V2.cell? ⟨p, 0, none⟩ = some v -> w3.cell? ⟨p, 0, none⟩ = some v := fun p _ hp v hv => d0.cell hv (fun e => by simp at e; omega)
        have t8 := d0.size; refine Ks w0 w3 b F t3 ((H0.trans (qf (c1.trans (qf a0 (by omega))) hb0)).grown d0 (by omega) (fun k9 s1 => by simp at s1; omega)) base h n n hb0 us _ ((j1.below a0).kept d0 (fun e => j3.1 (by simpa using e)) (fun j b9 hj m0 e => j3.2 j hj (by rw [m0, <- e]))) n i6 hn0 hn9 i c (by omega) n0 hiL x m3 w.heap.size wr.heap.size (wr.heap.size + 1) wo.heap.size ?_ ?_ ?_ ?_ ⟨by omega, by omega, by omega, by omega⟩ b4 (by rw [k2]; rfl)
        ·exact a2 _ (by omega) (by omega) _ o4
        ·exact a2 _ (by omega) (by omega) _ f5
        ·exact a2 _ (by omega) (by omega) _ n5
        ·exact a2 _ (by omega) (by omega) _ m4
       have x5 := sK a3; have v3 : Hid (b4 ≠ g ∧ ∀ j, j < n -> (vs.getD j undef).ownBlock ≠ some b4) := sK ⟨z5 i b4 e0 (by rw [k2]; rfl), fun j hj e => (s3 j b4 hj e).2 i e0 (by rw [k2]; rfl)⟩; clear a5 a3 hiL f0 j3; go_wp2_with (go_at_call 175; refine (fZ V2 g h n n n _ _ _ _ _ _ (fun e w' => ∃ wm, Az wm base g n n vs ((gjr F c i st).1.set i (addRow F.fld ((gjr F c i st).1.getD i []) (F.neg x) ((gjr F c i st).1.getD c []))) ∧ V2.grownBy wm (some b3) ∧ (∃ v, e = .returned v) ∧ w' = wm) (fun e w' => ∃ wm, Az wm base g n n vs ((gjr F c i st).1.set i (addRow F.fld ((gjr F c i st).1.getD i []) (F.neg x) ((gjr F c i st).1.getD c []))) ∧ V2.grownBy wm (some b3) ∧ aL base h n n b4 us ((gjr F c i st).2.set i (addRow F.fld ((gjr F c i st).2.getD i []) (F.neg x) ((gjr F c i st).2.getD c []))) wm e w') hn0 t6 (y5.mono fun e w' h9 => ⟨w', h9.2.1, h9.2.2, h9.1, rfl⟩) ?_ ?_).mono ?_; (· rintro e w4 ⟨wm, g2, y0, f7, rfl⟩; exact ⟨f7, y0.cell u6 (fun e => by simp at e; omega), (x5 w4 y0).mono fun e w' h9 => ⟨w4, g2, y0, h9⟩⟩); (· rintro e w4 ⟨wm, _, _, h9⟩; exact h9.1); rintro e w4 ⟨⟨v4, rfl⟩, e4, wm, g2, y0, _, d5, b5⟩); have a6 := sK g2; have b6 := sK y0; have d6 := sK d5; have g1 := sK b5; clear g2 y0 d5 b5; go_roundw
       case rel =>
        obtain ⟨e1, e2, e3, e4⟩ := n2 wm _ b6 (fun x h => by injection h with h; omega); refine ⟨i + 1, by omega, by go_num, (by rw [g0.out]; exact a6.kept g1 (fun e => v3.out.1 (by simpa using e)) (fun j b9 hj m0 e => v3.out.2 j hj (by rw [m0, <- e]))), (by rw [g0.out]; exact d6.out), ?_, ?_, ?_, qs e4 g1.size⟩
        ·refine e1.kept g1 fun p hp e => ?_
         simp only [qx, Kq, or_false] at hp
         rcases hp with rfl | rfl | rfl | rfl <;> (simp at e; omega)
        ·exact e2.kept' g1 fun x hx e => by
          have h2 := (v0.row.lt x (by rw [hx]; rfl)).1; simp at e; omega
        ·exact e3.grown g1 (by have := e3.size; omega) (fun k9 s1 => by simp at s1; omega)
       case measure => simp [intOf]; omega
theorem Az.rowsX {w : WQ} {base g n : Nat} {vs : VQ} {R : LQ} (h : Az w base g n n vs R) {X : Nat -> Prop} (hX : ∀ b, X b -> b < base) {F : Fld} {m : Nat} (hM : Mat F m R) : Cc w X (sQ g) n n R := by
 have hh := h.head
 refine ⟨h.len, vs, Dd h.grid.outer (qe _), fun b e hb => ?_, fun i hi => ?_⟩
 ·have e2 : g = b := by simpa [Value.ownBlock] using e
  have := hX b hb; omega
 ·by_cases h0 : 0 < (R.getD i []).length
  ·obtain ⟨b, d, h1, h2, h3, h4, h5⟩ := h.row hi h0
   refine ⟨_, _, h1, h5.rd, fun b' f2 e _ => ?_⟩; simp only [qc, qd, and_true] at e; obtain ⟨rfl, rfl⟩ := e; refine ⟨fun e2 => ?_, fun hb => by have := hX _ hb; omega⟩; have : g = b := by simpa [Value.ownBlock] using e2
   exact h4 this.symm
  ·obtain ⟨m', r0⟩ := h.grid.inner i hi
   rw [Bu, Lq (by omega : (R.getD i []).length = 0)] at r0
   rcases Ce r0 with ⟨h1, h2, _⟩ | ⟨b, c', h1, h2, h3, h4, h5⟩
   ·rw [h1]
    refine ⟨none, 0, ?_, ?_, fun b f2 e => by cases e⟩
    ·rw [Lq (by omega : (R.getD i []).length = 0)]; rfl
    ·rw [Lq (by omega : (R.getD i []).length = 0)]; exact RdN.nil w 0 (qe _)
   ·have v2 : m' = 0 := by have := r0.1; simp [ivs] at this; exact this.symm
    subst v2; rw [h1]; refine ⟨sQ b, c', ?_, ?_, fun b f2 e hl => by omega⟩
    ·rw [Lq (by omega : (R.getD i []).length = 0)]; rfl
    ·rw [Lq (by omega : (R.getD i []).length = 0)]; exact RdN.empty w _ _ h5
theorem Xf {F : FD} (hF : F.Ok) {n : Nat} (hn : 0 < n) : Mat F.fld n (Gz n) ∧ (Gz n).length = n := by
 refine ⟨fun r hr => ?_, by simp [Gz]⟩
 simp only [Gz, qz, Wq] at hr
 obtain ⟨k, hk, rfl⟩ := hr
 refine ⟨by simp [Jg], fun x hx => ?_⟩
 have hq := hF.q2
 show x < F.q
 rcases Oq hx with h | h
 ·rw [(qav.1 h).2]; omega
 ·omega
theorem Wz (w : WQ) (F : FD) (hF : F.Ok) (hi1 : F.inv 1 = 1) (Af : OQ) (cf : Nat) (hmod : RdN w Af (modL F).length cf (modL F)) (n cb : Nat) (B : OQ) (R : LQ) (hR : RdM w B n cb R) (hM : Mat F.fld n R) (hn0 : 0 < n) (hn9 : n <= 256) (hpiv : ∀ c, c < n -> ent (gj F n c (R, Gz n)).1 c c = 1) :
  cQ 147 #[Ax F Af cf, matV n B n cb] w (Rv n n (gj F n n (R, Gz n)).2 w) := by
 obtain ⟨mL, u1⟩ := xQ ((modL F).length)
 obtain ⟨M, k1⟩ := xQ (F.m + 1)
 have e1 : ∀ A9 c9, Ax F A9 c9 = .agg #[nQ F.p, nQ M, .slice A9 mL c9] := fun A9 c9 => by rw [k1, u1]; rfl
 have m0 : Hid (∀ wx bs, From w wx -> wx.cell? ⟨bs, 0, none⟩ = some (nQ n) ∧ wx.cell? ⟨bs, 1, none⟩ = some (.slice B n cb) ∧ bs < wx.heap.size -> cQ 63 #[Ax F Af cf, .slice (sQ bs) 1 1] wx (Ga F wx)) := sK fun wx bs hx ⟨h1, h2, h5⟩ =>
  Hl wx F hF Af cf (hmod.below hx) bs 1 1 (by omega) ⟨by omega, by unfold maxLen; omega⟩ (fun _ => n) (fun _ => n) (fun _ => cb) (fun _ => B) (fun _ => R)
   ⟨h5, fun i hi => by (obtain rfl : i = 0 := (by omega); simpa using h1), fun i hi => by (obtain rfl : i = 0 := (by omega); simpa using h2), fun i hi => hR.below hx, fun i hi => ⟨hn9, hn9, hM⟩⟩
 have HR := sK hR
 have x2 := hR.len
 obtain ⟨d2, a2⟩ := Xf hF hn0
 have v1 : GjOk F n (R, Gz n) := ⟨x2, a2, hM, d2⟩
 have w1 : ∀ r ∈ R, r.length = n := fun r hr => (hM r hr).1
 have i1 := sK fun (wx : WQ) => nP wx n hn0 (by omega)
 have w0 := sK fun (wx : WQ) (hx : From w wx) => Ql wx B n cb n R (hR.below hx) (by omega) w1 hn0 (by omega)
 have n2 := sK hpiv
 have d1 := sK v1
 have y2 := hR.cap
 have r2 := hR.max
 unfold maxLen at r2
 rw [e1] at m0 ⊢
 unfold RetG at i1 w0
 unfold Ga matV at *
 clear e1 k1 u1 hmod hR hpiv v1 d2 a2 w1
 go_enter Tryz.func147, Tryz.ntmps147
 go_upto_region 1 with fail
 obtain ⟨W, hW, p2, o1, b0, b1, b2⟩ := mk3 w #[nQ F.p, nQ M, .slice Af mL cf] 24 #[nQ n, .slice B n cb] 52 #[zQ, eQ] 52
 rw [hW]
 clear hW
 obtain ⟨c0, c1, c2⟩ := b0.t3
 obtain ⟨x0, x1⟩ := b1.t2
 have H1 := sK b1
 have H3 := sK b2
 have HF := sK o1
 clear b0 b1 b2 o1 p2
 have i0 : Hid (Blk (W.alloc (.cells #[nQ n, .slice B n cb] 52)) W.heap.size #[nQ n, .slice B n cb]) := sK (Blk.new W _ 52)
 have g1 := sK (m0 _ W.heap.size (Aa (Ac W (.cells #[nQ n, .slice B n cb] 52)) HF.out) ⟨by simpa using i0.c0, by simpa using i0.c1, i0.lt⟩)
 clear m0 i0
 go_upto_region 4 with (go_at_call 63; refine g1.mono ?_; rintro e w2 ⟨bg, rfl, _, s1, r1⟩)
 have j0 := Aa r1 (Ac W (.cells #[nQ n, .slice B n cb] 52))
 have y0 := sK (Aa j0 HF.out)
 have t0 := sK (H1.below j0)
 have v0 := sK (H3.below j0)
 have m2 := sK s1
 clear r1 j0 s1 g1 c0 c1 c2 x0 x1
 obtain ⟨x0, x1⟩ := t0.t2
 go_upto_region 7 with (go_at_call 265; refine (i1 _).mono ?_; rintro e w4 ⟨us, rfl, y1, e0⟩)
 have d0 := sK y1
 have g2 := sK e0
 have j2 := sK (Aa e0 y0.out)
 have HX : Hid (∀ wx, Below w2.heap.size w2 wx -> wx.cell? ⟨w.heap.size + 1, 0, none⟩ = some (nQ n) ∧ wx.cell? ⟨w.heap.size + 1, 1, none⟩ = some (.slice B n cb)) := sK fun wx hx => by
  have h9 := t0.below hx; exact ⟨h9.c0, h9.c1⟩
 have m1 := HX w4.drew e0.drew
 have g0 := e0.drew
 clear x0 x1 y1 e0
 go_region_held_law (fun w' => w'.cell? ⟨w.heap.size + 1, 0, none⟩ = some (nQ n) ∧ w'.cell? ⟨w.heap.size + 1, 1, none⟩ = some (.slice B n cb)) (first | exact m1 | exact n1 | exact l1)
  (first
   | (go_at_call 122; refine (w0 _ j2.drew).mono ?_; rintro e w5 ⟨vs, rfl, l0, a0⟩; have n1 := HX w5 (Aa a0 g0))
   | (go_at_call 123; refine (rQ w2 w5 bg F m2 (Aa a0 g0) hi1 w2.heap.size w4.drew.heap.size w2.heap.size n (qb _) vs us R (Gz n) (l0.lower (by have := g2.size; simp; omega)) ((d0.below (bR).drew).below a0) d1 hn0 (by omega) (by have := d0.head; simp; omega) (fun j b hj e => ⟨by have := l0.blkLt hj e; have := d0.head; simp at *; omega, fun i hi e2 => by have := l0.blkLt hj e; have := d0.blkLt hi e2; simp at *; omega⟩) (fun j b hj e => by have := d0.blkLt hj e; simp; omega) n2.out).mono ?_; rintro e w6 ⟨A6, pc, d, rfl, t1, o0⟩; have l1 := HX w6 ((Aa a0 g0).trans o0)))
 all_goals
  have s2 := (dD hF d1 n (qb _)).2.2.2; have n0 := (Aa a0 g0).trans o0; have h3 := v0.below n0; have z2 := v0.lt; have j1 := Aa n0 y0.out; have a1 := sK t1; have B3 := sK h3; have k2 := sK j1; obtain ⟨x0, x1⟩ := l1; obtain ⟨z0, z1⟩ := h3.t2; obtain ⟨f0, f1⟩ := h3.u2; clear t1 h3 n0 j1 a0 g0 o0 l0 m1 n1; go_wp2; obtain ⟨Z, hZ, i2, l2, o2⟩ := Ca B3.out k2 (by omega) [nQ n, .slice (sQ w2.heap.size) n n] (by simp); simp only [putC] at hZ; rw [hZ]; clear hZ; obtain ⟨q0, q1⟩ := i2.t2; exact bodyPost_ret (v := .tuple #[.agg #[nQ n, .slice (sQ w2.heap.size) n n], zQ]) (by simp [results, Tryz.results147, go_sem, q0, q1]) rfl ⟨_, _, rfl, (a1.kept o2 (fun e => by simp at e; omega) (fun j b hj e e2 => by have := (a1.blkLt hj e).1; simp at e2; omega)).rowsX (fun b hb => by have hb : b < w.heap.size := hb; omega) s2, l2⟩
def sysR (R : LQ) (N k : Nat) (I : NQ) : LQ := (gj F2 k k (R.map (selR I), Gz k)).2.map (mulR F2 R N k)
theorem oZ (w : WQ) (A0 : OQ) (c0 N k cg : Nat) (B : OQ) (R : LQ) (P : NQ) (h : CdOk w c0 N B k cg R P) (ci : Nat) (Ai : OQ) (I : NQ) (hI : RdN w Ai k ci I) (hr : Ps I N) (hk : (grd F2 R I k).2.length = k) (hpiv : ∀ c, c < k -> ent (gj F2 k c (R.map (selR I), Gz k)).1 c c = 1) :
  cQ 95 #[cV A0 c0 N B k cg, .slice Ai k ci] w (Rv N k (sysR R N k I) w) := by
 have s1 := h.rd.len
 have i0 := h.rr.mat
 have h0 := h.k0
 have e0 := h.k9
 have a3 := h.N0
 have j3 := h.N9
 have f1 : Mat F2.fld k (R.map (selR I)) := fun r hr => by
  obtain ⟨r0, g3, rfl⟩ := qz.1 hr; refine ⟨by rw [selR, qak]; exact hI.len, fun x hx => ?_⟩; obtain ⟨i, _, rfl⟩ := qz.1 hx; exact (show Els F2 r0 from (i0 r0 g3).2).at Ew i
 obtain ⟨j2, i2⟩ := Xf Ew h0
 have f2 : GjOk F2 k (R.map (selR I), Gz k) := ⟨by rw [qak]; exact s1, i2, f1, j2⟩
 have e2 := dD Ew f2 k (qb _)
 have w0 := sK fun (wx : WQ) (hx : From w wx) => qX wx A0 c0 N k cg B R P (h.below hx) ci Ai I (hI.below hx) hr hk
 have g1 := sK fun (wx : WQ) (hx : From w wx) => Vn wx F2 Ew A0 c0 (RdN.empty wx A0 c0 h.c0m) N k cg B R (h.rd.below hx) i0 (by omega) e0 k ci Ai I (hI.below hx) hr.1 h0 e0
 have l1 := sK fun (wx : WQ) (B9 : OQ) (c9 : Nat) (hx : RdM wx B9 k c9 (R.map (selR I))) => Wz wx F2 Ew rfl A0 c0 (RdN.empty wx A0 c0 h.c0m) k c9 B9 (R.map (selR I)) hx f1 h0 e0 hpiv
 have r1 := sK fun (wx : WQ) (hx : From w wx) (B9 : OQ) (c9 : Nat) (i3 : RdM wx B9 k c9 (gj F2 k k (R.map (selR I), Gz k)).2) => pO wx F2 Ew A0 c0 (RdN.empty wx A0 c0 h.c0m) k k c9 B9 _ i3 e2.2.2.2 N cg B R (h.rd.below hx) i0 h0 e0 e0 a3 (by omega)
 have e1 : Ax F2 A0 c0 = .agg #[.int .i64 2, .int .i64 1, .slice A0 0 c0] := rfl
 rw [e1] at g1 l1 r1
 unfold Ah at w0
 unfold Rv matV sysR cV at *
 clear h hI hr hk hpiv s1 i0 f1 j2 i2 f2 e2 e1
 generalize (gj F2 k k (R.map (selR I), Gz k)).2 = V at *
 generalize R.map (selR I) = U at *
 generalize V.map (mulR F2 R N k) = Z9 at *
 go_enter Tryz.func95, Tryz.ntmps95
 go_upto_region 1 with fail
 obtain ⟨W, hW, f3, z1, b0, b1⟩ := mk2 w #[.int .i64 2, .int .i64 1, .slice A0 0 c0, nQ N, .slice B k cg] 27 #[zQ, eQ] 52
 rw [hW]
 clear hW
 obtain ⟨x0, x1, x2, x3, x4⟩ := b0.t5
 have HB := sK b0
 have HE := sK b1
 have HF := sK z1
 clear b0 b1 z1 f3
 go_upto_region 6 with (go_at_call 145; refine (w0 _ HF.out).mono ?_; rintro e w2 ⟨rfl, g0⟩)
 have m2 := sK (Aa g0 HF.out)
 have j0 := sK (HB.below g0)
 have h1 := sK (HE.below g0)
 clear x0 x1 x2 x3 x4 g0 HB HE w0
 obtain ⟨x0, x1, x2, x3, x4⟩ := j0.t5
 go_upto_region 7 with fail
 obtain ⟨W3, t1, c3, f0, y0⟩ := mk1 w2 #[nQ N, .slice B k cg] 52
 rw [t1]
 clear t1
 have k1 := sK (Aa f0 m2.out)
 have l0 := sK (j0.below f0)
 have i1 := sK (h1.below f0)
 have z0 := sK y0
 clear x0 x1 x2 x3 x4 f0 c3 y0 j0 h1
 obtain ⟨x0, x1, x2⟩ := l0.t3
 obtain ⟨m0, m1⟩ := z0.t2
 go_upto_region 8 with (go_at_call 146; refine (g1 _ k1.out).mono ?_; rintro e w4 ⟨B4, c4, rfl, g2, a2⟩)
 obtain ⟨W5, v1, d3, a1, y0⟩ := mk1 w4 #[nQ k, .slice B4 k c4] 52
 rw [v1]
 clear v1
 have a0 := Aa a1 a2
 have n2 := sK (Aa a0 k1.out)
 have o0 := sK (l0.below a0)
 have j1 := sK (i1.below a0)
 have o1 := sK (z0.below a0)
 have s2 := sK y0
 have p2 := sK (l1 W5 B4 c4 (g2.below a1).rd)
 clear x0 x1 x2 m0 m1 a1 d3 y0 a2 a0 g2 l0 i1 z0
 obtain ⟨x0, x1, x2⟩ := o0.t3
 obtain ⟨m0, m1⟩ := s2.t2
 go_upto_region 11 with (go_at_call 147; refine p2.mono ?_; rintro e w6 ⟨B6, c6, rfl, h2, c2⟩)
 obtain ⟨W7, w1, e3, d1, y0⟩ := mk1 w6 #[nQ k, .slice B6 k c6] 52
 rw [w1]
 clear w1
 have d0 := Aa d1 c2
 have v0 := sK (Aa d0 n2.out)
 have k2 := sK (o0.below d0)
 have t0 := sK (j1.below d0)
 have r2 := sK (o1.below d0)
 have u2 := sK y0
 have v2 := sK (r1 W7 v0 B6 c6 (h2.below d1).rd)
 clear x0 x1 x2 m0 m1 d1 e3 y0 c2 d0 h2 o0 j1 o1
 obtain ⟨x0, x1, x2⟩ := k2.t3
 obtain ⟨m0, m1⟩ := r2.t2
 obtain ⟨n0, n1⟩ := u2.t2
 go_wp2_with (go_at_call 148; refine v2.mono ?_; rintro e w8 ⟨B8, c8, rfl, h3, d2⟩; have Y8 := t0.below d2; have y0 := Y8.c0; have u0 := Y8.free 0; have y1 := Y8.c1; have u1 := Y8.free 1)
 have z2 := Aa d2 v0.out
 have k3 := t0.lt
 have l3 := HF.size
 obtain ⟨Z, hZ, l2, o2, y2⟩ := Ca Y8 z2 (by omega) [nQ N, .slice B8 k c8] (by simp)
 simp only [putC] at hZ
 rw [hZ]
 clear hZ
 obtain ⟨q0, q1⟩ := l2.t2
 exact bodyPost_ret (v := .tuple #[.agg #[nQ N, .slice B8 k c8], zQ]) (by simp [results, Tryz.results95, go_sem, q0, q1]) rfl ⟨B8, c8, rfl, (h3.grown y2 (fun b e => by injection e with e; have := t0.lt; show b < W7.heap.size; omega)).less (fun b hb => .inl (by have hb : b < w.heap.size := hb; have := v0.size; show b < W7.heap.size; omega)), o2⟩
end Go.Proofs.YtoalkldfhkabnaaGreatDoor
