/- Part of WholeTraces. -/
import Derived.Test.YtoalkldfhkabnaaGreatDoorW00
import Derived.Test.YtoalkldfhkabnaaGreatDoorW10
import Derived.Test.YtoalkldfhkabnaaGreatDoorW20
set_option linter.all false
set_option maxRecDepth 10000
set_option maxHeartbeats 16000000
namespace Go.Proofs.YtoalkldfhkabnaaGreatDoor
open Go.RowKit Fq
def trI (F S : FD) (x : Nat) : Nat := (imgL F S).idxOf (sumL F (Bm F x (S.m + 1)))
def bT (F S : FD) (b : Nat) (row : NQ) : NQ := (Bb F.fld b row).map (trI F S)
def dP (F S : FD) (R : LQ) (b : Nat) : LQ := R.map (bT F S b)
def Md (F S : FD) (N : Nat) (R : LQ) (st : LQ × NQ) (b : Nat) : LQ × NQ :=
 Bc S.fld ((Bc S.fld (Ff S.fld st.1 st.2 (Bc S.fld (dP F S R b) N).1) N).1 ++ st.1) N
def trK (F S : FD) (N : Nat) (R : LQ) (k : Nat) : LQ × NQ := ((Io F (nrmF F (S.m + 1)) (S.m + 1)).take k).foldl (Md F S N R) (Bc S.fld [] N)
def trC (F S : FD) (N : Nat) (R : LQ) : LQ × NQ := (Io F (nrmF F (S.m + 1)) (S.m + 1)).foldl (Md F S N R) (Bc S.fld [] N)
theorem aW (F S : FD) (N : Nat) (R : LQ) (st : LQ × NQ) (b : Nat) : (Md F S N R st b).1 = sumS S.fld N st.1 st.2 (Bc S.fld (dP F S R b) N).1 := rfl
section
variable {F S : FD} (h : F.Ok) (hS : S.Ok) (hp : S.p = F.p) (hd : (F.m + 1) % (S.m + 1) = 0)
include h hS hp hd
theorem cR {x : Nat} (hx : x < F.q) : sumL F (Bm F x (S.m + 1)) ∈ imgL F S := by
 have h1 := Vm h hx hd
 obtain ⟨hr, _⟩ := Rc h hS hp hd
 have h2 : F.p ^ (S.m + 1) = S.q := by rw [<- hp]; rfl
 rw [h2] at h1
 obtain ⟨a, ha, e⟩ := Vy h hS hr hd (y := sumL F (Bm F x (S.m + 1))) (Ny h _) h1
 unfold imgL
 exact qz.2 ⟨a, Wq.2 ha, e⟩
theorem nA {x : Nat} (hx : x < F.q) : trI F S x < S.q := by
 have := List.idxOf_lt_length_of_mem (cR h hS hp hd hx)
 rwa [Wf] at this
theorem pI {x : Nat} (hx : x < F.q) : idx (imgL F S) (sumL F (Bm F x (S.m + 1))) = (trI F S x : Int) := by
 unfold idx
 rw [if_pos (cR h hS hp hd hx)]; rfl
theorem fR (b : Nat) (row : NQ) : (bT F S b row).length = row.length := by simp [bT, Bb]
theorem Rw (b : Nat) (row : NQ) : Els F (Bb F.fld b row) := fun x hx => by
 obtain ⟨y, _, rfl⟩ := qz.1 hx
 exact h.mul_lt _ _
theorem Mj {N : Nat} {R : LQ} (hM : Mat F.fld N R) (b : Nat) : Mat S.fld N (dP F S R b) := fun r hr => by
 obtain ⟨v, hv, rfl⟩ := qz.1 hr
 refine ⟨(fR h hS hp hd b v).trans (hM v hv).1, fun x hx => ?_⟩
 obtain ⟨y, hy, rfl⟩ := qz.1 hx
 exact nA h hS hp hd (Rw h hS hp hd b v y hy)
theorem Wb {N : Nat} {R : LQ} (hM : Mat F.fld N R) (b : Nat) {st : LQ × NQ} (hR : Rref S.fld N st.1 st.2) : Rref S.fld N (Md F S N R st b).1 (Md F S N R st b).2 := by
 obtain ⟨_, _, h2⟩ := Ry hS.fldOk hR (Bn hS.fldOk (Mj h hS hp hd hM b)).1.mat
 exact (Bn hS.fldOk h2).1
theorem Uv {N : Nat} {R : LQ} (hM : Mat F.fld N R) (k : Nat) : Rref S.fld N (trK F S N R k).1 (trK F S N R k).2 := by
 unfold trK
 have h0 := (Bn hS.fldOk (R0 := []) (n := N) (fun r hr => by simp at hr)).1
 revert h0
 generalize (Io F (nrmF F (S.m + 1)) (S.m + 1)).take k = l
 generalize Bc S.fld [] N = st
 induction l generalizing st with
 | nil => exact fun h0 => h0
 | cons b t ih => exact fun h0 => ih _ (Wb h hS hp hd hM b h0)
end
theorem kI (F S : FD) (N : Nat) (R : LQ) {k : Nat} (hk : k < (Io F (nrmF F (S.m + 1)) (S.m + 1)).length) : trK F S N R (k + 1) = Md F S N R (trK F S N R k) ((Io F (nrmF F (S.m + 1)) (S.m + 1)).getD k 0) := by
 unfold trK
 rw [qae hk, List.foldl_append, qa, qh hk]; rfl
theorem bU (F S : FD) (N : Nat) (R : LQ) {k : Nat} (hk : (Io F (nrmF F (S.m + 1)) (S.m + 1)).length <= k) : trK F S N R k = trC F S N R := by
 unfold trK trC
 rw [qq hk]
def RetT (S : FD) (mS Ms N : Nat) (K : LQ) (w : WQ) (e : Ending) (w' : WQ) : Prop :=
 ∃ A c B, e = .returned (.tuple #[.agg #[nQ S.p, nQ Ms, .slice A mS c, nQ N, .slice B K.length K.length], zQ]) ∧ RdN w' A mS c (modL S) ∧ OwnM w' w.heap.size B K.length K.length K ∧ Below w.heap.size w w' ∧ ∀ b a0, A = some ⟨b, a0, none⟩ -> 0 < mS -> w.heap.size <= b
theorem cW (F : FD) (x d : Nat) : ∀ f i, perN F x d f i <= i + f
 | 0, i => qb _
 | f + 1, i => by
  rw [perN]; split
  ·omega
  ·have := cW F x d f (i + 1); omega
set_option maxRecDepth 20000 in
theorem Pf (w : WQ) (F S : FD) (hF : F.Ok) (hS : S.Ok) (hp : S.p = F.p) (hd : (F.m + 1) % (S.m + 1) = 0) (A As Ai : OQ) (c cs ci : Nat) (hmods : RdN w As (modL S).length cs (modL S))
  (h : Nat) (hG : GFat w h F) (hI : RdN w Ai S.q ci (imgL F S)) (N k cg : Nat) (B : OQ) (R : LQ) (hR : RdM w B k cg R) (hM : Mat F.fld N R) (hN0 : 0 < N) (hN9 : N <= 64) (o0 : k <= 256) :
  cQ 25 #[Dj F A c N B k cg, Ax S As cs, pQ h, .slice Ai S.q ci] w (Ef S N (trC F S N R).1 w) := by
 obtain ⟨i0, u8, f9, g9, i9⟩ := info_parts Bj
 obtain ⟨i1, hj, a9, c9, e9⟩ := info_parts Eg
 have v9 := hG.bd
 have s8 := hF.fldOk
 have z5 := hS.fldOk
 have cG := hS.q256
 have e3 := (Rx hF hd (by omega)).1
 obtain ⟨D, hD⟩ := xQ (S.m + 1)
 have q9 : 0 < D := by omega
 obtain ⟨x0, v0⟩ := xQ (nrmF F (S.m + 1))
 obtain ⟨bl, n0⟩ := xQ (Io F x0 (S.m + 1))
 obtain ⟨n, hn⟩ := xQ (perN F x0 (S.m + 1) ((F.m + 1) / (S.m + 1)) 1)
 obtain ⟨mS, r0⟩ := xQ ((modL S).length)
 obtain ⟨Ms, g0⟩ := xQ (S.m + 1)
 obtain ⟨T, hT⟩ : ∃ T : Nat -> LQ, T = fun i => (trK F S N R i).1 := ⟨_, rfl⟩
 obtain ⟨X, hX⟩ : ∃ X : Nat -> LQ, X = fun i => (Bc S.fld (dP F S R (bl.getD i 0)) N).1 := ⟨_, rfl⟩
 obtain ⟨f, hf⟩ : ∃ f : Nat -> NQ -> NQ, f = fun i => bT F S (bl.getD i 0) := ⟨_, rfl⟩
 obtain ⟨sc, v5⟩ : ∃ sc : Nat -> NQ -> NQ, sc = fun i => Bb F.fld (bl.getD i 0) := ⟨_, rfl⟩
 obtain ⟨tr, i3⟩ : ∃ tr : Nat -> Nat, tr = fun x => sumL F (Bm F x (S.m + 1)) := ⟨_, rfl⟩
 obtain ⟨g, hg⟩ : ∃ g : Nat -> Nat, g = trI F S := ⟨_, rfl⟩
 have v2 : bl.length = n := by rw [n0, hn]; simp [Io]
 have i5 : ∀ i, bl.getD i 0 < F.q := fun i => by
  rw [n0]; exact Els.at hF (fun y hy => by obtain ⟨j, _, rfl⟩ := qz.1 hy; exact Ed hF (by rw [v0]; exact e3) j) i
 have h7 : Hid (∀ wx, From w wx -> cQ 56 #[pQ h, nQ Ms] wx fun e w' => e = .returned (.tuple #[nQ x0, zQ]) ∧ Below wx.heap.size wx w') := sK fun wx h9 => by
  subst g0 v0; exact Zf wx h F (hG.below h9) (S.m + 1) (by omega) hd
 have r6 : Hid (∀ wx, From w wx -> cQ 57 #[pQ h, nQ x0, nQ Ms] wx fun e w' => ∃ A c, e = .returned (.tuple #[.slice A n c, zQ]) ∧ OwnN w' wx.heap.size A n c bl ∧ Below wx.heap.size wx w') := sK fun wx h9 => by
  subst g0 hn n0; exact Qe wx h F (hG.below h9) x0 (by rw [v0]; exact e3) (S.m + 1) (by omega) hd
 have f8 : Hid (∀ wx, From w wx -> ∀ x, x < F.q -> cQ 60 #[pQ h, nQ x, nQ Ms] wx fun e w' => e = .returned (.tuple #[nQ (tr x), zQ]) ∧ Below wx.heap.size wx w') := sK fun wx h9 x hx => by
  subst g0 i3; exact dS wx h F (hG.below h9) x hx (S.m + 1) (by omega) hd
 have z6 : Hid (∀ wx, From w wx -> ∀ x, x < F.q -> g x < 1000000 ∧ cQ 61 #[.slice Ai S.q ci, nQ (tr x)] wx fun e w' => e = .returned (nQ (g x)) ∧ w' = wx) := sK fun wx h9 x hx => by
  subst hg i3; refine ⟨by have := nA hF hS hp hd hx; omega, ?_⟩; have h8 := Qz wx Ai S.q ci _ (hI.below h9) (sumL F (Bm F x (S.m + 1))); rw [pI hF hS hp hd hx] at h8; exact h8.mono fun e w' h => ⟨h.1, h.2.symm⟩
 have x7 : Hid (∀ wx, From w wx -> ∀ i A1 c1 l, RdN wx A1 N c1 l -> (∀ x ∈ l, x < F.q) -> ((sc i l).length = N ∧ (∀ x ∈ sc i l, x < F.q) ∧ f i l = (sc i l).map g) ∧ cQ 59 #[pQ h, nQ (bl.getD i 0), .slice A1 N c1] wx fun e w' => ∃ A c, e = .returned (.slice A N c) ∧ OwnN w' wx.heap.size A N c (sc i l) ∧ Below wx.heap.size wx w') := sK fun wx h9 i A1 c1 l hr hl => by
  subst v5 hf hg; exact ⟨⟨Gc.trans hr.len, Rw hF hS hp hd _ _, rfl⟩, Iv wx h F (hG.below h9) _ (i5 i) A1 N c1 l hr hl (by omega)⟩
 have i7 : Hid (∀ wx, From w wx -> ∀ i A1 c1, RdM wx A1 k c1 (R.map (f i)) -> cQ 58 #[.agg #[nQ S.p, nQ Ms, .slice As mS cs], .agg #[nQ N, .slice A1 k c1]] wx (RetT S mS Ms N (X i) wx)) := sK fun wx h9 i A1 c1 hr => by
  subst g0 r0 hX hf; exact Tw wx S hS As cs (hmods.below h9) N k c1 A1 _ hr (Mj hF hS hp hd hM _) hN0 hN9 o0
 have g7 : Hid (∀ wx, From w wx -> cQ 58 #[.agg #[nQ S.p, nQ Ms, .slice As mS cs], .agg #[nQ N, eQ]] wx (RetT S mS Ms N (T 0) wx)) := sK fun wx h9 => by
  subst g0 r0 hT; exact Tw wx S hS As cs (hmods.below h9) N 0 0 none [] (RdM.empty wx none 0 (by unfold maxLen; omega)) (fun r hr => by simp at hr) hN0 hN9 (by omega)
 have e8 : Hid (∀ wx i, i < n -> ∀ A1 A2 B1 B2 c1 c2, RdN wx A1 mS c1 (modL S) -> RdN wx A2 mS c2 (modL S) -> RdM wx B1 (T i).length (T i).length (T i) -> RdM wx B2 (X i).length (X i).length (X i) ->
   cQ 62 #[.agg #[nQ S.p, nQ Ms, .slice A1 mS c1, nQ N, .slice B1 (T i).length (T i).length], .agg #[nQ S.p, nQ Ms, .slice A2 mS c2, nQ N, .slice B2 (X i).length (X i).length]] wx (RetT S mS Ms N (T (i + 1)) wx)) := sK fun wx i hi A1 A2 B1 B2 c1 c2 h1 h2 h3 h4 => by
  subst g0 r0 hT hX; simp only at h3 h4 ⊢; rw [kI F S N R (by rw [<- v0, <- n0, v2]; exact hi), <- v0, <- n0, aW]; exact nZ wx S hS A1 A2 c1 c2 h1 h2 N _ _ _ _ B1 B2 _ _ _ _ h3 (Uv hF hS hp hd hM i) h4 (Bn z5 (Mj hF hS hp hd hM _)).1 hN0 hN9
 have n3 : Hid (Ef S N (trC F S N R).1 w = RetT S mS Ms N (T n) w) := sK (by
  subst g0 r0 hT; simp only; rw [bU F S N R (by rw [<- v0, <- n0, v2]; exact qb _)]; rfl)
 have bX : n <= 1000000 := by
  have h1 := cW F x0 (S.m + 1) ((F.m + 1) / (S.m + 1)) 1; have h2 : (F.m + 1) / (S.m + 1) <= F.m + 1 := qaf _ _; omega
 have HR := sK hR
 have t7 : Hid (∀ i, i < k -> (R.getD i []).length = N ∧ ∀ x ∈ R.getD i [], x < F.q) := sK fun i hi => hM _ (Ap (by rw [hR.len]; exact hi) [])
 have o9 : Hid (RdN w As mS cs (modL S)) := sK (by rw [r0]; exact hmods)
 have bO := hR.cap
 have v8 := hR.max
 unfold maxLen at v8
 have s4 := hR.len
 have e2 : ∀ F A c N B k cg, Dj F A c N B k cg = .agg #[nQ F.p, .int .i64 ((F.m + 1 : Nat) : Int), .slice A (modL F).length c, nQ N, .slice B k cg] := fun _ _ _ _ _ _ _ => rfl
 have e1 : Ax S As cs = .agg #[nQ S.p, nQ Ms, .slice As mS cs] := by rw [g0, r0]; rfl
 rw [n3.out, e1, e2]
 clear e1 e2 n3 hR hM hI hG hmods hd hp hF hS s8 z5 e3 v0 n0 hn r0 g0 hT hX hf v5 i3 hg i5 v2
 generalize (modL F).length = mF at *
 generalize F.m + 1 = MF at *
 go_enter Tryz.func25, Tryz.ntmps25
 go_upto_region 1 with fail
 obtain ⟨W, hW, u9, s2, b0, b1, b2⟩ := mk3 w #[nQ F.p, nQ MF, .slice A mF c, nQ N, .slice B k cg] 27 #[nQ S.p, nQ Ms, .slice As mS cs] 24 #[zQ, zQ, eQ, zQ, eQ] 27
 rw [hW]
 clear hW
 have HC : Hid (∀ wx, From W wx -> (wx.cell? ⟨w.heap.size, 3, none⟩ = some (nQ N) ∧ wx.cell? ⟨w.heap.size, 4, none⟩ = some (.slice B k cg)) ∧ (wx.cell? ⟨w.heap.size + 1, 0, none⟩ = some (nQ S.p) ∧ wx.cell? ⟨w.heap.size + 1, 1, none⟩ = some (nQ Ms) ∧ wx.cell? ⟨w.heap.size + 1, 2, none⟩ = some (.slice As mS cs))) := sK fun wx hx =>
  have h0 := b0.below hx; have h1 := b1.below hx
  ⟨⟨h0.c3, h0.c4⟩, h1.c0, h1.c1, h1.c2⟩
 have t6 := sK b2
 have k8 := sK s2
 have HW : Hid (∀ wx, From W wx -> From w wx) := sK fun wx hx => s2.trans (qf hx (by omega))
 clear b0 b1 b2 s2
 obtain ⟨⟨p0, p1⟩, q0, q1, q2⟩ := HC W (From.refl W)
 go_upto_region 2 with (go_at_call 56; refine (h7 W k8.out).mono ?_; rintro e w2 ⟨rfl, g5⟩)
 have g2 := sK g5
 clear g5 p0 p1 q0 q1 q2
 obtain ⟨⟨p0, p1⟩, q0, q1, q2⟩ := HC w2 g2.out
 go_upto_region 5 with (go_at_call 57; refine (r6 w2 (HW w2 g2.out)).mono ?_; rintro e w3 ⟨A3, c3, rfl, m5, h5⟩)
 have j1 := sK (Aa h5 g2.out)
 have j7 := sK m5
 clear h5 m5 p0 p1 q0 q1 q2
 obtain ⟨⟨p0, p1⟩, q0, q1, q2⟩ := HC w3 j1.out
 go_upto_region 8 with (go_at_call 58; refine (g7 w3 (HW w3 j1.out)).mono ?_; rintro e w4 ⟨A4, c4, B4, rfl, q5, j4, o1, n5⟩)
 have x6 := sK (Aa o1 j1.out)
 have v3 := sK (j7.below o1)
 have b7 := sK j4
 have o7 := sK q5
 have f6 := sK n5
 have cB : w3.heap.size <= w4.heap.size := o1.size
 have z8 : W.heap.size <= w3.heap.size := j1.size
 clear o1 j4 q5 n5 p0 p1 q0 q1 q2
 obtain ⟨W5, y4, r9, a5, u0⟩ := mk1 w4 #[nQ S.p, nQ Ms, .slice A4 mS c4, nQ N, .slice B4 (T 0).length (T 0).length] 27
 rw [y4]
 clear y4
 have HU := sK u0
 have n2 := sK a5
 clear u0 a5
 go_upto_region 9 with fail
 go_loopw [11, 59] (fun ev k3 wr => ∃ (i : Nat) (At : OQ) (ct : Nat) (Bt : OQ), i <= n ∧ ev = zQ ∧ k3 = nQ i ∧ RdN wr At mS ct (modL S) ∧ (∀ b a0, At = some ⟨b, a0, none⟩ -> 0 < mS -> W.heap.size <= b) ∧ OwnM wr W.heap.size Bt (T i).length (T i).length (T i) ∧
  Blk wr w4.heap.size #[nQ S.p, nQ Ms, .slice At mS ct, nQ N, .slice Bt (T i).length (T i).length] ∧ Below w4.heap.size W5 wr ∧ w4.heap.size < wr.heap.size) (fun _ k3 _ => n - (intOf k3).toNat)
 case atStart => exact ⟨0, A4, c4, B4, qe _, rfl, rfl, o7.below n2.out, fun b a0 e h0 => by have := f6 b a0 e h0; omega, (b7.below n2.out).mono z8, HU.out, bR, by omega⟩
 case round =>
  obtain ⟨i, At, ct, Bt, hi, rfl, rfl, g4, f4, n4, hU, hB, eA⟩ := hrel; obtain ⟨wo, rfl⟩ := xQ wr; have p3 := sK (n2.trans hB); have m0 := sK (Aa p3 x6.out); have m3 := sK g4; have l3 := sK f4; have s3 := sK n4; have a4 := sK hU; have p6 := sK hB; clear g4 f4 n4 hU hB HU
  by_cases hin : i < n
  ·have bD : (i : Int) < (n : Int) := by omega
   obtain ⟨gb, rfl, _, _⟩ := v3.block (by omega); have r8 := (v3.below p3.out).cell hin; have y7 : Hid (∀ wx, From w wx -> ∀ A1 c1 l, RdN wx A1 N c1 l -> (∀ x ∈ l, x < F.q) -> ((sc i l).length = N ∧ (∀ x ∈ sc i l, x < F.q) ∧ f i l = (sc i l).map g) ∧ cQ 59 #[pQ h, nQ (bl.getD i 0), .slice A1 N c1] wx fun e w' => ∃ A c, e = .returned (.slice A N c) ∧ OwnN w' wx.heap.size A N c (sc i l) ∧ Below wx.heap.size wx w') := sK fun wx h9 => x7 wx h9 i
   generalize bl.getD i 0 = xb at *; obtain ⟨⟨p0, p1⟩, q0, q1, q2⟩ := HC wo m0.out; go_upto_region 12 with fail
   obtain ⟨Wa, d5, t9, e5, e6⟩ := mk1 wo #[nQ N, eQ] 52; rw [d5]; clear d5; have e4 := sK e6; have b4 := sK e5; clear e6 e5 p0 p1 q0 q1 q2 r8; obtain ⟨⟨p0, p1⟩, q0, q1, q2⟩ := HC Wa (Aa b4 m0.out); have cL : w.heap.size + 3 <= w4.heap.size := by omega
   go_upto_region 13 with fail
   clear p0 p1 q0 q1 q2
   go_loopw [69] (fun jv wr => ∃ (j : Nat) (AO : OQ) (co : Nat), j <= k ∧ jv = nQ j ∧ Eu wr (wo.heap.size + 1) AO j co ((R.take j).map (f i)) ∧ Blk wr wo.heap.size #[nQ N, .slice AO j co] ∧ Below wo.heap.size Wa wr ∧ wo.heap.size < wr.heap.size) (fun jv _ => k - (intOf jv).toNat)
   case atStart => exact ⟨0, none, 0, qe _, rfl, by simpa using Eu.nil Wa (wo.heap.size + 1), e4.out, bR, by omega⟩
   case round =>
    obtain ⟨j, AO, co, bE, rfl, r4, f5, p2, cF⟩ := hrel; obtain ⟨wj, rfl⟩ := xQ wr; have m2 := sK r4; have o2 := sK f5; have o6 := sK p2; have i2 := sK (b4.trans p2); have k1 := sK (HW wj (Aa i2 m0.out)); have g1 := sK (Aa i2 m0.out); clear r4 f5 p2 e4
    by_cases hjk9 : j < k
    ·have bG : (j : Int) < (k : Int) := by omega
     obtain ⟨db, p9, Aj, cj, p8, z9, j5, x2⟩ := (HR.below k1.out).at hjk9; subst p8; obtain ⟨b6, d6⟩ := t7 j hjk9; rw [b6] at j5 x2; have c8 : Hid ((R.take (j + 1)).map (f i) = (R.take j).map (f i) ++ [f i (R.getD j [])]) := sK (Eo (f i) R [] (by rw [s4]; exact hjk9)); have v6 := sK x2; have j8 := sK d6; clear b6 x2 d6; generalize R.getD j [] = v at *; obtain ⟨⟨p0, p1⟩, q0, q1, q2⟩ := HC wj g1.out; go_upto_region 16 with (at_make; refine Bd rfl _ _ _ rfl i0 Tryz.underlying22 u8 f9 g9 i9 _ _ N rfl rfl (by omega) ?_; intro w5 p5 j0 cC)
     have r2 : From w w5 := Aa j0 k1.out; obtain ⟨⟨y1, a6, y5⟩, f2⟩ := y7 w5 r2 Aj cj v (v6.below j0) j8.out; have f2 := sK f2; have d8 := sK a6; have b8 := sK y5; have k7 := sK p5; have k6 := sK j0; have j9 := sK r2; have m9 := sK (Aa j0 g1.out); clear a6 y5 p5 j0 r2 p0 p1 q0 q1 q2 j5; go_upto_region 17 with (go_at_call 59; refine f2.mono ?_; rintro e w6 ⟨A6, c6, rfl, f3, r1⟩)
     obtain ⟨g6, rfl, aC, bB⟩ := f3.block hN0; have m7 := sK (f3.mono (b' := wj.heap.size + 1) (by omega)); have l7 := sK (k7.below r1); have l6 : Hid (Below wj.heap.size wj w6) := sK (Aa r1 k6.out); have u5 : wj.heap.size < w6.heap.size := by have := r1.size; omega
     clear f3 r1; generalize sc i v = sv at *
     go_loopw [81] (fun qv wr => ∃ q : Nat, q <= N ∧ qv = nQ q ∧ OwnN wr wj.heap.size (sQ wj.heap.size) N N ((sv.take q).map g ++ List.replicate (N - q) 0) ∧ OwnN wr (wj.heap.size + 1) (sQ g6) N c6 sv ∧ Below wj.heap.size wj wr ∧ wj.heap.size < wr.heap.size) (fun qv _ => N - (intOf qv).toNat)
     case atStart => exact ⟨0, qe _, rfl, by simpa using l7.out, m7.out, l6.out, u5⟩
     case round =>
      obtain ⟨q, hq, rfl, o5, w1, v1, cE⟩ := hrel; obtain ⟨wq, rfl⟩ := xQ wr; have l1 := sK o5; have n7 := sK w1; have f1 := sK v1; have j2 := sK (Aa v1 k1.out); have s6 := sK (Aa v1 g1.out); clear o5 v1
      by_cases hqN : q < N
      ·have cA : (q : Int) < (N : Int) := by omega
       have x9 := w1.cell hqN; have j3 : sv.getD q 0 < F.q := d8 _ (Ap (by rw [y1]; exact hqN) 0); have x5 : ∀ wx x, OwnN wx wj.heap.size (sQ wj.heap.size) N N ((sv.take q).map g ++ List.replicate (N - q) 0) -> x = g (sv.getD q 0) -> x < 1000000 -> OwnN (wx.setCell ⟨wj.heap.size, q, none⟩ (nQ x)) wj.heap.size (sQ wj.heap.size) N N ((sv.take (q + 1)).map g ++ List.replicate (N - (q + 1)) 0) := fun wx x h1 h2 h3 => by
        subst h2; have h4 := h1.set q h3; rw [Fd 0 (by simp [y1]; omega) hqN, <- Eo g sv 0 (by rw [y1]; exact hqN)] at h4; exact h4
       have a8 := sK x5; have g8 := sK (f8 wq j2 _ j3); have k2 : Hid (∀ wx, From w wx -> g (sv.getD q 0) < 1000000 ∧ cQ 61 #[.slice Ai S.q ci, .int .i64 (tr (sv.getD q 0) : Int)] wx fun e w' => e = .returned (.int .i64 (g (sv.getD q 0) : Int)) ∧ w' = wx) := sK fun wx h9 => z6 wx h9 _ j3
       clear x5 w1 j3; generalize sv.getD q 0 = z at *; obtain ⟨gz, a3⟩ := xQ (g z); have y6 := sK a3; rw [<- a3] at k2; clear a3; generalize tr z = tz at *; obtain ⟨⟨p0, p1⟩, q0, q1, q2⟩ := HC wq s6.out; go_wp2_with (first | (go_at_call 60; refine g8.mono ?_; rintro e w8 ⟨rfl, l0⟩; have y9 := (l1.below l0).cell hqN; have aA := (l1.below l0).free q) | (go_at_call 61; refine (k2 w8 (Aa l0 j2.out)).2.mono ?_; rintro e w9 ⟨rfl, rfl⟩)); have x8 := a8 w9 gz (l1.below l0) y6 (k2 w9 (Aa l0 j2.out)).1; have x1 := (n7.below l0).far (r := wj.heap.size) (by omega) q (nQ gz); have q8 := (Aa l0 f1.out).setCell (p := ⟨wj.heap.size, q, none⟩) (qb _) (nQ gz); have eB := l0.size; go_roundw
       case rel => exact ⟨q + 1, by omega, by go_num, x8, x1, q8, by simp [World.setCell]; omega⟩
       case measure => simp [intOf]; omega
      ·obtain rfl : q = N := by omega
       have l5 : decide ((q : Int) < (q : Int)) = false := by simp
       have m1 : OwnN wq wj.heap.size (sQ wj.heap.size) q q (f i v) := by
        have h9 := l1.out; rw [qq (by rw [y1]; exact qb _), qaa, qao, qas, <- b8.out] at h9; exact h9
       have n9 := sK m1; have k5 := m1.len; have B9 := o2.keep f1 (by omega); have n8 : wq.cell? ⟨wo.heap.size, 1, none⟩ = some (.slice AO j co) := B9.c1; have u7 := sK (m2.below f1.out); have l2 : Hid (∀ b, (Value.slice AO j co).ownBlock = some b -> wo.heap.size + 1 <= b ∧ b < wj.heap.size) := sK fun b e2 => by
        obtain ⟨eI, h8, _⟩ := m2.own; exact h8.lt b e2
       have i6 : Hid (∀ b a0, (some (⟨wj.heap.size, 0, none⟩ : Addr)) = some ⟨b, a0, none⟩ -> 0 < (f i v).length -> (Value.slice AO j co).ownBlock ≠ some b ∧ wo.heap.size + 1 <= b) := sK fun b a0 e _ => by
        simp only [qc, qd] at e; refine ⟨fun e2 => ?_, by omega⟩; have := (l2 b e2).2; omega
       have q6 : Hid ((wq.alloc (.cells #[.slice (sQ wj.heap.size) q q] 22)).cell? ⟨wq.heap.size, 0, none⟩ = some (.slice (sQ wj.heap.size) (f i v).length q)) := sK (by rw [k5]; go_simp); have v7 : Hid (RdN (wq.alloc (.cells #[.slice (sQ wj.heap.size) q q] 22)) (sQ wj.heap.size) (f i v).length q (f i v)) := sK (by rw [k5]; exact (m1.alloc _).rd); have s7 := sK (u7.below (Ac wq (.cells #[.slice (sQ wj.heap.size) q q] 22))); clear m1 w1; generalize f i v = fv at *; go_upto_region 23 with (at_builtin; refine Gv rfl (.tmp 102) (.tmp 104) 25 rfl i1 Tryz.underlying25 hj a9 c9 e9 (wo.heap.size + 1) AO j co _ rfl s7 wq.heap.size rfl _ _ _ q6 v7 i6 (by omega) (by simp; omega) ?_; intro w0 y0 w8 v4 f0; have B8 := (B9.alloc (.cells #[.slice (sQ wj.heap.size) q q] 22)).kept f0 (fun e => by have := l2 _ e; omega); have m8 : w8.cell? ⟨wo.heap.size, 1, none⟩ = some (.slice AO j co) := B8.c1; have o8 := B8.free 1)
       have t8 := Ad w8 wo.heap.size 1 (.slice w0 (j + 1) y0); have B7 := B8.set 1 (.slice w0 (j + 1) y0); have R7 : Eu (w8.setCell ⟨wo.heap.size, 1, none⟩ (.slice w0 (j + 1) y0)) (wo.heap.size + 1) w0 (j + 1) y0 ((R.take j).map (f i) ++ [fv]) := v4.set (by omega) _ _; have L7 : Below wo.heap.size Wa (w8.setCell ⟨wo.heap.size, 1, none⟩ (.slice w0 (j + 1) y0)) := by
        refine Below.setCell (p := ⟨wo.heap.size, 1, none⟩) ?_ (by simp only; omega) _; refine qac ?_ f0 (by simp; omega) (fun k9 o0 => by have := l2 _ o0; omega); exact (o6.trans (f1.mono (by omega))).alloc (by omega) _
       have q7 := sK R7; have m6 := sK B7; have a7 := sK L7; have x1 := f0.size; simp at x1; clear R7 B7 L7 v4 f0 B8 B9 t8 n8 m8 o8; go_wp2; go_roundw
       case rel =>
        refine ⟨j + 1, w0, y0, by omega, by go_num, by rw [c8.out]; exact q7.out, ?_, a7.out, by simp [World.setCell]; omega⟩; have := m6.out; simpa using this
       case measure => simp [intOf]; omega
    ·obtain rfl : j = k := by omega
     have l5 : decide ((j : Int) < (j : Int)) = false := by simp
     have p4 : RdM wj AO j co (R.map (f i)) := by
      have h9 := m2.rd
      rwa [qq (by rw [s4]; exact qb _)] at h9
     have x3 := sK p4; have b9 : wj.cell? ⟨wo.heap.size, 0, none⟩ = some (nQ N) := o2.c0; have d9 : wj.cell? ⟨wo.heap.size, 1, none⟩ = some (.slice AO j co) := o2.c1; obtain ⟨⟨p0, p1⟩, q0, q1, q2⟩ := HC wj g1.out; clear p4; go_upto_region 25 with (go_at_call 58; refine (i7 wj k1 i AO co x3.out).mono ?_; rintro e w5 ⟨A5, c5, B5, rfl, r5, k4, j0, y8⟩)
     obtain ⟨W6, b5, s9, n1, z0⟩ := mk1 w5 #[nQ S.p, nQ Ms, .slice A5 mS c5, nQ N, .slice B5 (X i).length (X i).length] 27; rw [b5]; clear b5; have a1 : From wo W6 := Aa n1 (Aa j0 i2.out); have o3 := sK a1; have l9 := sK (HW W6 (Aa a1 m0.out)); have y3 := sK (a4.below a1); have l8 := sK z0; have p7 := sK (r5.below n1); have d7 := sK (k4.below n1); have j6 := sK (m3.below a1); have f7 := sK (s3.below a1); clear a1 z0 r5 k4 j0 y8 n1 b9 d9 p0 p1 q0 q1 q2 x3; obtain ⟨u0, u1, u2, u3, u4⟩ := y3.t5; obtain ⟨z0, z1, z2, z3, z4⟩ := l8.t5; go_upto_region 28 with (go_at_call 62; refine (e8 W6 i hin At A5 Bt B5 ct c5 j6 p7 f7.rd d7.rd).mono ?_; rintro e w7 ⟨A7, c7, B7, rfl, s5, l4, s1, g3⟩; have U7 := y3.below s1; have d0 := U7.free 0; have d1 := U7.free 1; have d2 := U7.free 2; have d3 := U7.free 3; have d4 := U7.free 4; have t0 : w7.cell? ⟨w4.heap.size, 0, none⟩ = some (nQ S.p) := U7.c0; have t1 : w7.cell? ⟨w4.heap.size, 1, none⟩ = some (nQ Ms) := U7.c1; have t2 : w7.cell? ⟨w4.heap.size, 2, none⟩ = some (.slice At mS ct) := U7.c2; have t3 : w7.cell? ⟨w4.heap.size, 3, none⟩ = some (nQ N) := U7.c3; have t4 : w7.cell? ⟨w4.heap.size, 4, none⟩ = some (.slice Bt (T i).length (T i).length) := U7.c4)
     obtain ⟨w8, a2⟩ : ∃ x, x = (((((w7.setCell ⟨w4.heap.size, 0, none⟩ (nQ S.p)).setCell ⟨w4.heap.size, 1, none⟩ (nQ Ms)).setCell ⟨w4.heap.size, 2, none⟩ (.slice A7 mS c7)).setCell ⟨w4.heap.size, 3, none⟩ (nQ N)).setCell ⟨w4.heap.size, 4, none⟩ (.slice B7 (T (i + 1)).length (T (i + 1)).length)) := ⟨_, rfl⟩
     have f0 : w7.grownBy w8 (some w4.heap.size) := by rw [a2]; exact ((((Ad _ _ _ _).trans (Ad _ _ _ _)).trans (Ad _ _ _ _)).trans (Ad _ _ _ _)).trans (Ad _ _ _ _)
     have x4 : Blk w8 w4.heap.size #[nQ S.p, nQ Ms, .slice A7 mS c7, nQ N, .slice B7 (T (i + 1)).length (T (i + 1)).length] := by rw [a2]; exact ((((U7.set 0 _).set 1 _).set 2 _).set 3 _).set 4 _
     have u5 := o3.size; have cD := s1.size; have x1 := f0.size; have o4 : RdN w8 A7 mS c7 (modL S) := s5.kept f0 (fun b a0 e h0 => by have := g3 b a0 e h0; omega); have m4 := (l4.kept f0 (by omega)).mono (b := W.heap.size) (by omega); have i4 : Below w4.heap.size W5 w8 := ((p6.trans (o3.mono (by omega))).trans (s1.mono (by omega))).grown f0 (by omega) (fun k9 o0 => by simp only [qc] at o0; omega); have r7 := sK o4; have e7 := sK m4; have n6 := sK i4; have i8 := sK x4; have h6 : Hid (∀ b a0, A7 = some ⟨b, a0, none⟩ -> 0 < mS -> W.heap.size <= b) := sK fun b a0 e h0 => by have := g3 b a0 e h0; omega
     rw [<- a2]; clear a2 f0 x4 o4 m4 i4 U7 s5 l4 s1 g3 u0 u1 u2 u3 u4 z0 z1 z2 z3 z4 t0 t1 t2 t3 t4 d0 d1 d2 d3 d4; go_wp2; go_roundw
     case rel => exact ⟨i + 1, A7, c7, B7, by omega, rfl, by go_num, r7.out, h6.out, e7.out, i8.out, n6.out, by omega⟩
     case measure => simp [intOf]; omega
  ·obtain rfl : i = n := by omega
   have l5 : decide ((i : Int) < (i : Int)) = false := by simp
   have e0 := t6.below m0.out; obtain ⟨u0, u1, u2, u3, u4⟩ := a4.t5; have c0 : wo.cell? ⟨w.heap.size + 1 + 1, 0, none⟩ = some (zQ) := e0.c0; have c1 : wo.cell? ⟨w.heap.size + 1 + 1, 1, none⟩ = some (zQ) := e0.c1; have c2 : wo.cell? ⟨w.heap.size + 1 + 1, 2, none⟩ = some (eQ) := e0.c2; have c3 : wo.cell? ⟨w.heap.size + 1 + 1, 3, none⟩ = some (zQ) := e0.c3; have c4 : wo.cell? ⟨w.heap.size + 1 + 1, 4, none⟩ = some (eQ) := e0.c4; have d0 := e0.free 0; have d1 := e0.free 1; have d2 := e0.free 2; have d3 := e0.free 3; have d4 := e0.free 4; have u6 := sK e0; have r3 := sK (HW wo m0.out); clear e0; go_wp2; have hE := ((((u6.set 0 (nQ S.p)).set 1 (nQ Ms)).set 2 (.slice At mS ct)).set 3 (nQ N)).set 4 (.slice Bt (T i).length (T i).length); obtain ⟨q0, q1, q2, q3, q4⟩ := hE.t5; have y2 := ((((Ad wo (w.heap.size + 1 + 1) 0 (nQ S.p)).trans (Ad _ (w.heap.size + 1 + 1) 1 (nQ Ms))).trans (Ad _ (w.heap.size + 1 + 1) 2 (.slice At mS ct))).trans (Ad _ (w.heap.size + 1 + 1) 3 (nQ N))).trans (Ad _ (w.heap.size + 1 + 1) 4 (.slice Bt (T i).length (T i).length)); refine bodyPost_ret (v := .tuple #[.agg #[nQ S.p, nQ Ms, .slice At mS ct, nQ N, .slice Bt (T i).length (T i).length], zQ]) (by simp [results, Tryz.results25, go_sem, q0, q1, q2, q3, q4]) rfl ⟨At, ct, Bt, rfl, m3.kept y2 (fun b a0 e h0 => by have := l3 b a0 e h0; omega), (s3.kept y2 (by omega)).mono (by omega), r3.grown y2 r3.size (fun k9 o0 => by simp at o0; omega), fun b a0 e h0 => by have := l3 b a0 e h0; omega⟩
theorem Wn {F S : FD} (h : F.Ok) (hS : S.Ok) (hp : S.p = F.p) (hd : (F.m + 1) % (S.m + 1) = 0) {N : Nat} {R : LQ} (hM : Mat F.fld N R) : Rref S.fld N (trC F S N R).1 (trC F S N R).2 := by
 have h1 := Uv h hS hp hd hM (Io F (nrmF F (S.m + 1)) (S.m + 1)).length
 rwa [bU F S N R (qb _)] at h1
theorem bV {F : Fld} {N : Nat} {R : LQ} {P : NQ} (h : Rref F N R P) : R.length <= N := by
 have h1 := Cn h
 have h2 := h.len
 omega
theorem fY (w : WQ) (F S : FD) (hF : F.Ok) (hS : S.Ok) (hp : S.p = F.p) (hd : (F.m + 1) % (S.m + 1) = 0) (A As : OQ) (c cs : Nat) (hmod : RdN w A (modL F).length c (modL F)) (hmods : RdN w As (modL S).length cs (modL S)) (N k cg : Nat) (B : OQ) (R : LQ) (P : NQ) (hR : RdM w B k cg R) (hRr : Rref F.fld N R P) (hN0 : 0 < N) (hN9 : N <= 64) :
  cQ 11 #[Dj F A c N B k cg, Ax S As cs] w (Ef S N (trC F S N R).1 w) := by
 have g1 : k <= N := by have h1 := Cn hRr; have h2 := hRr.len; have h3 := hR.len; omega
 obtain ⟨mF, f0⟩ := xQ ((modL F).length)
 obtain ⟨MF, a0⟩ := xQ (F.m + 1)
 obtain ⟨mS, g0⟩ := xQ ((modL S).length)
 obtain ⟨Ms, e0⟩ := xQ (S.m + 1)
 have l1 : Hid (∀ wx, From w wx -> cQ 23 #[.agg #[nQ F.p, nQ MF, .slice A mF c, nQ N, .slice B k cg]] wx fun e w' => e = .returned (zQ) ∧ Below wx.heap.size wx w') := sK fun wx h9 => by
  subst a0 f0; exact Fj wx F hF A c (hmod.below h9) N k cg B R P (hR.below h9) hRr hN0 hN9 (by omega)
 have w0 : Hid (∀ wx, From w wx -> cQ 24 #[.agg #[nQ S.p, nQ Ms, .slice As mS cs], .agg #[nQ F.p, nQ MF, .slice A mF c], .agg #[nQ S.p, nQ Ms, .slice As mS cs]] wx (Mz F S wx)) := sK fun wx h9 => by
  subst a0 f0 e0 g0; exact Pu wx F S hF hS hp hd A As c cs (hmod.below h9) (hmods.below h9)
 have x0 : Hid (∀ wx, From w wx -> ∀ h Ai ci, GFat wx h F -> RdN wx Ai S.q ci (imgL F S) -> cQ 25 #[.agg #[nQ F.p, nQ MF, .slice A mF c, nQ N, .slice B k cg], .agg #[nQ S.p, nQ Ms, .slice As mS cs], pQ h, .slice Ai S.q ci] wx (RetT S mS Ms N (trC F S N R).1 wx)) := sK fun wx h9 h Ai ci hG hI => by
  subst a0 f0 e0 g0; exact Pf wx F S hF hS hp hd A As Ai c cs ci (hmods.below h9) h hG hI N k cg B R (hR.below h9) hRr.mat hN0 hN9 (by omega)
 have t0 : Hid (Ef S N (trC F S N R).1 w = RetT S mS Ms N (trC F S N R).1 w) := sK (by subst e0 g0; rfl)
 have e1 : Ax S As cs = .agg #[nQ S.p, nQ Ms, .slice As mS cs] := by rw [e0, g0]; rfl
 have e2 : Dj F A c N B k cg = .agg #[nQ F.p, nQ MF, .slice A mF c, nQ N, .slice B k cg] := by rw [a0, f0]; rfl
 rw [t0.out, e1, e2]
 unfold Mz at w0
 unfold RetT at x0 ⊢
 clear t0 e1 e2 hR hRr hmod hmods hp hd hF hS f0 a0 g0 e0
 generalize (trC F S N R).1 = K at *
 generalize hKL : K.length = KL at *
 clear hKL
 go_enter Tryz.func11, Tryz.ntmps11
 go_upto_region 1 with fail
 obtain ⟨W, hW, t2, l0, b0, b1, b2⟩ := mk3 w #[nQ F.p, nQ MF, .slice A mF c, nQ N, .slice B k cg] 27 #[nQ S.p, nQ Ms, .slice As mS cs] 24 #[zQ, zQ, eQ, zQ, eQ] 27
 rw [hW]
 clear hW
 have HC : Hid (∀ wx, From W wx -> (wx.cell? ⟨w.heap.size, 0, none⟩ = some (nQ F.p) ∧ wx.cell? ⟨w.heap.size, 1, none⟩ = some (nQ MF) ∧ wx.cell? ⟨w.heap.size, 2, none⟩ = some (.slice A mF c) ∧ wx.cell? ⟨w.heap.size, 3, none⟩ = some (nQ N) ∧ wx.cell? ⟨w.heap.size, 4, none⟩ = some (.slice B k cg)) ∧ (wx.cell? ⟨w.heap.size + 1, 0, none⟩ = some (nQ S.p) ∧ wx.cell? ⟨w.heap.size + 1, 1, none⟩ = some (nQ Ms) ∧ wx.cell? ⟨w.heap.size + 1, 2, none⟩ = some (.slice As mS cs))) := sK fun wx hx =>
  have h0 := b0.below hx; have h1 := b1.below hx
  ⟨⟨h0.c0, h0.c1, h0.c2, h0.c3, h0.c4⟩, h1.c0, h1.c1, h1.c2⟩
 have r0 := sK b2
 have t1 := sK l0
 have HW : Hid (∀ wx, From W wx -> From w wx) := sK fun wx hx => l0.trans (qf hx (by omega))
 clear b0 b1 b2 l0
 obtain ⟨⟨p0, p1, p2, p3, p4⟩, q0, q1, q2⟩ := HC W (From.refl W)
 go_upto_region 4 with (go_at_call 23; refine (l1 W t1.out).mono ?_; rintro e w2 ⟨rfl, a1⟩)
 have j0 := sK a1
 clear a1
 clear p0 p1 p2 p3 p4 q0 q1 q2
 obtain ⟨⟨p0, p1, p2, p3, p4⟩, q0, q1, q2⟩ := HC w2 j0.out
 go_upto_region 7 with (go_at_call 24; refine (w0 w2 (HW w2 j0.out)).mono ?_; rintro e w3 ⟨h, Ai, ci, rfl, y0, z0, f1⟩)
 have i0 := sK (Aa f1 j0.out)
 have r1 := sK y0
 have s1 := sK z0
 clear f1 y0 z0
 clear p0 p1 p2 p3 p4 q0 q1 q2
 obtain ⟨⟨p0, p1, p2, p3, p4⟩, q0, q1, q2⟩ := HC w3 i0.out
 go_wp2_with (go_at_call 25; refine (x0 w3 (HW w3 i0.out) h Ai ci r1 s1.out).mono ?_; rintro e w4 ⟨A9, c9, B9, rfl, x1, u1, o0, i1⟩; have hD := r0.below (Aa o0 i0.out); have d0 := hD.free 0; have d1 := hD.free 1; have d2 := hD.free 2; have d3 := hD.free 3; have d4 := hD.free 4; have c0 : w4.cell? ⟨w.heap.size + 1 + 1, 0, none⟩ = some (zQ) := hD.c0; have c1 : w4.cell? ⟨w.heap.size + 1 + 1, 1, none⟩ = some (zQ) := hD.c1; have c2 : w4.cell? ⟨w.heap.size + 1 + 1, 2, none⟩ = some (eQ) := hD.c2; have c3 : w4.cell? ⟨w.heap.size + 1 + 1, 3, none⟩ = some (zQ) := hD.c3; have c4 : w4.cell? ⟨w.heap.size + 1 + 1, 4, none⟩ = some (eQ) := hD.c4)
 have j3 := i0.size
 have hD := r0.below (Aa o0 i0.out)
 have hE := ((((hD.set 0 (nQ S.p)).set 1 (nQ Ms)).set 2 (.slice A9 mS c9)).set 3 (nQ N)).set 4 (.slice B9 KL KL)
 obtain ⟨q0, q1, q2, q3, q4⟩ := hE.t5
 have m0 := ((((Ad w4 (w.heap.size + 1 + 1) 0 (nQ S.p)).trans (Ad _ (w.heap.size + 1 + 1) 1 (nQ Ms))).trans (Ad _ (w.heap.size + 1 + 1) 2 (.slice A9 mS c9))).trans (Ad _ (w.heap.size + 1 + 1) 3 (nQ N))).trans (Ad _ (w.heap.size + 1 + 1) 4 (.slice B9 KL KL))
 have hB := HW _ (Aa o0 i0.out)
 refine bodyPost_ret (v := .tuple #[.agg #[nQ S.p, nQ Ms, .slice A9 mS c9, nQ N, .slice B9 KL KL], zQ]) (by simp [results, Tryz.results11, go_sem, q0, q1, q2, q3, q4]) rfl ⟨A9, c9, B9, rfl, x1.kept m0 (fun b n0 e h0 => by have := i1 b n0 e h0; omega), (u1.kept m0 (by omega)).mono (by omega), hB.grown m0 hB.size (fun k9 g1 => by simp at g1; omega), fun b n0 e h0 => by have := i1 b n0 e h0; omega⟩
theorem Tv (w : WQ) (F S : FD) (hF : F.Ok) (hS : S.Ok) (hp : S.p = F.p) (hd : (F.m + 1) % (S.m + 1) = 0) (A As : OQ) (c cs : Nat) (hmod : RdN w A (modL F).length c (modL F)) (hmods : RdN w As (modL S).length cs (modL S)) (N k cg : Nat) (B : OQ) (R : LQ) (P : NQ) (hR : RdM w B k cg R) (hRr : Rref F.fld N R P) (hN0 : 0 < N) (hN9 : N <= 64) :
  cQ 9 #[Dj F A c N B k cg, Ax S As cs] w (Ef S N (kern S.fld (trC F S N (kern F.fld R N)).1 N) w) := by
 have g1 : k <= N := by have h1 := Cn hRr; have h2 := hRr.len; have h3 := hR.len; omega
 obtain ⟨mF, f0⟩ := xQ ((modL F).length)
 obtain ⟨MF, a0⟩ := xQ (F.m + 1)
 obtain ⟨mS, g0⟩ := xQ ((modL S).length)
 obtain ⟨Ms, e0⟩ := xQ (S.m + 1)
 have l1 : Hid (∀ wx, From w wx -> cQ 23 #[.agg #[nQ F.p, nQ MF, .slice A mF c, nQ N, .slice B k cg]] wx fun e w' => e = .returned (zQ) ∧ Below wx.heap.size wx w') := sK fun wx h9 => by
  subst a0 f0; exact Fj wx F hF A c (hmod.below h9) N k cg B R P (hR.below h9) hRr hN0 hN9 (by omega)
 have w0 : Hid (∀ wx, From w wx -> cQ 24 #[.agg #[nQ S.p, nQ Ms, .slice As mS cs], .agg #[nQ F.p, nQ MF, .slice A mF c], .agg #[nQ S.p, nQ Ms, .slice As mS cs]] wx (Mz F S wx)) := sK fun wx h9 => by
  subst a0 f0 e0 g0; exact Pu wx F S hF hS hp hd A As c cs (hmod.below h9) (hmods.below h9)
 obtain ⟨Q, hQ⟩ := Ji hF.fldOk hRr.mat
 have hT := Wn hF hS hp hd hQ.mat
 have r2 := bV hQ
 have s2 := bV hT
 have m1 : Hid (∀ wx, From w wx -> cQ 10 #[.agg #[nQ F.p, nQ MF, .slice A mF c, nQ N, .slice B k cg]] wx (RetT F mF MF N (kern F.fld R N) wx)) := sK fun wx h9 => by
  subst a0 f0; exact Il wx F hF A c (hmod.below h9) N k cg B R P (hR.below h9) hRr hN0 hN9 (by omega)
 have x0 : Hid (∀ wx, From w wx -> ∀ A1 c1 B1 l h Ai ci, RdM wx B1 l l (kern F.fld R N) -> GFat wx h F -> RdN wx Ai S.q ci (imgL F S) -> cQ 25 #[.agg #[nQ F.p, nQ MF, .slice A1 mF c1, nQ N, .slice B1 l l], .agg #[nQ S.p, nQ Ms, .slice As mS cs], pQ h, .slice Ai S.q ci] wx (RetT S mS Ms N (trC F S N (kern F.fld R N)).1 wx)) := sK fun wx h9 A1 c1 B1 l h Ai ci g2 hG hI => by
  subst a0 f0 e0 g0; exact Pf wx F S hF hS hp hd A1 As Ai c1 cs ci (hmods.below h9) h hG hI N l l B1 _ g2 hQ.mat hN0 hN9 (by have := g2.len; omega)
 have y1 : Hid (∀ wx A1 c1 B1, RdN wx A1 mS c1 (modL S) -> RdM wx B1 (trC F S N (kern F.fld R N)).1.length (trC F S N (kern F.fld R N)).1.length (trC F S N (kern F.fld R N)).1 -> cQ 10 #[.agg #[nQ S.p, nQ Ms, .slice A1 mS c1, nQ N, .slice B1 (trC F S N (kern F.fld R N)).1.length (trC F S N (kern F.fld R N)).1.length]] wx (RetT S mS Ms N (kern S.fld (trC F S N (kern F.fld R N)).1 N) wx)) := sK fun wx A1 c1 B1 h1 h2 => by
  subst e0 g0; exact Il wx S hS A1 c1 h1 N _ _ B1 _ _ h2 hT hN0 hN9 (by omega)
 have t0 : Hid (Ef S N (kern S.fld (trC F S N (kern F.fld R N)).1 N) w = RetT S mS Ms N (kern S.fld (trC F S N (kern F.fld R N)).1 N) w) := sK (by subst e0 g0; rfl)
 have e1 : Ax S As cs = .agg #[nQ S.p, nQ Ms, .slice As mS cs] := by rw [e0, g0]; rfl
 have e2 : Dj F A c N B k cg = .agg #[nQ F.p, nQ MF, .slice A mF c, nQ N, .slice B k cg] := by rw [a0, f0]; rfl
 rw [t0.out, e1, e2]
 unfold Mz at w0
 unfold RetT at x0 m1 y1 ⊢
 clear t0 e1 e2 hR hRr hmod hmods hp hd hF hS f0 a0 g0 e0 hQ hT r2 s2
 generalize kern S.fld (trC F S N (kern F.fld R N)).1 N = K at *
 generalize (trC F S N (kern F.fld R N)).1 = TT at *
 generalize kern F.fld R N = DD at *
 generalize hKL : K.length = KL at *
 generalize TT.length = TL at *
 obtain ⟨DL, z1⟩ := xQ DD.length
 rw [<- z1] at m1
 clear hKL z1
 go_enter Tryz.func9, Tryz.ntmps9
 go_upto_region 1 with fail
 obtain ⟨W, hW, t2, l0, b0, b1, b2⟩ := mk3 w #[nQ F.p, nQ MF, .slice A mF c, nQ N, .slice B k cg] 27 #[nQ S.p, nQ Ms, .slice As mS cs] 24 #[zQ, zQ, eQ, zQ, eQ] 27
 rw [hW]
 clear hW
 have HC : Hid (∀ wx, From W wx -> (wx.cell? ⟨w.heap.size, 0, none⟩ = some (nQ F.p) ∧ wx.cell? ⟨w.heap.size, 1, none⟩ = some (nQ MF) ∧ wx.cell? ⟨w.heap.size, 2, none⟩ = some (.slice A mF c) ∧ wx.cell? ⟨w.heap.size, 3, none⟩ = some (nQ N) ∧ wx.cell? ⟨w.heap.size, 4, none⟩ = some (.slice B k cg)) ∧ (wx.cell? ⟨w.heap.size + 1, 0, none⟩ = some (nQ S.p) ∧ wx.cell? ⟨w.heap.size + 1, 1, none⟩ = some (nQ Ms) ∧ wx.cell? ⟨w.heap.size + 1, 2, none⟩ = some (.slice As mS cs))) := sK fun wx hx =>
  have h0 := b0.below hx; have h1 := b1.below hx
  ⟨⟨h0.c0, h0.c1, h0.c2, h0.c3, h0.c4⟩, h1.c0, h1.c1, h1.c2⟩
 have r0 := sK b2
 have t1 := sK l0
 have HW : Hid (∀ wx, From W wx -> From w wx) := sK fun wx hx => l0.trans (qf hx (by omega))
 clear b0 b1 b2 l0
 obtain ⟨⟨p0, p1, p2, p3, p4⟩, q0, q1, q2⟩ := HC W (From.refl W)
 go_upto_region 4 with (go_at_call 23; refine (l1 W t1.out).mono ?_; rintro e w2 ⟨rfl, a1⟩)
 have j0 := sK a1
 clear a1
 clear p0 p1 p2 p3 p4 q0 q1 q2
 obtain ⟨⟨p0, p1, p2, p3, p4⟩, q0, q1, q2⟩ := HC w2 j0.out
 go_upto_region 7 with (go_at_call 24; refine (w0 w2 (HW w2 j0.out)).mono ?_; rintro e w3 ⟨h, Ai, ci, rfl, y0, z0, f1⟩)
 have i0 := sK (Aa f1 j0.out)
 have r1 := sK y0
 have s1 := sK z0
 clear f1 y0 z0
 clear p0 p1 p2 p3 p4 q0 q1 q2
 obtain ⟨⟨p0, p1, p2, p3, p4⟩, q0, q1, q2⟩ := HC w3 i0.out
 go_upto_region 8 with (go_at_call 10; refine (m1 w3 (HW w3 i0.out)).mono ?_; rintro e w4 ⟨A4, c4, B4, rfl, x2, a2, o0, u2⟩)
 clear p0 p1 p2 p3 p4 q0 q1 q2
 obtain ⟨W5, i2, g3, v1, u0⟩ := mk1 w4 #[nQ F.p, nQ MF, .slice A4 mF c4, nQ N, .slice B4 DL DL] 27
 rw [i2]
 clear i2
 have n1 := sK (Aa v1 o0)
 have o1 := sK (Aa n1 i0.out)
 have m2 := sK (a2.below v1).rd
 obtain ⟨y2, z2, a3, e3, f3⟩ := u0.t5
 clear x2 a2 o0 u2 v1 u0
 obtain ⟨⟨p0, p1, p2, p3, p4⟩, q0, q1, q2⟩ := HC W5 o1.out
 go_upto_region 11 with (go_at_call 25; refine (x0 W5 (HW W5 o1.out) A4 c4 B4 DL h Ai ci m2 (r1.below n1.out) (s1.below n1.out)).mono ?_; rintro e w6 ⟨A6, c6, B6, rfl, l2, f2, k2, v2⟩)
 clear p0 p1 p2 p3 p4 q0 q1 q2
 clear y2 z2 a3 e3 f3
 obtain ⟨W7, j2, i3, k1, v0⟩ := mk1 w6 #[nQ S.p, nQ Ms, .slice A6 mS c6, nQ N, .slice B6 TL TL] 27
 rw [j2]
 clear j2
 have j1 := sK (Aa k1 (Aa k2 o1.out))
 have o2 := sK (l2.below k1)
 have n2 := sK (f2.below k1).rd
 obtain ⟨l3, m3, n3, o3, r3⟩ := v0.t5
 clear l2 f2 k2 v2 k1 v0
 go_wp2_with (go_at_call 10; refine (y1 W7 A6 c6 B6 o2 n2.out).mono ?_; rintro e w8 ⟨A9, c9, B9, rfl, x1, u1, w1, i1⟩; have hD := r0.below (Aa w1 j1.out); have d0 := hD.free 0; have d1 := hD.free 1; have d2 := hD.free 2; have d3 := hD.free 3; have d4 := hD.free 4; have c0 : w8.cell? ⟨w.heap.size + 1 + 1, 0, none⟩ = some (zQ) := hD.c0; have c1 : w8.cell? ⟨w.heap.size + 1 + 1, 1, none⟩ = some (zQ) := hD.c1; have c2 : w8.cell? ⟨w.heap.size + 1 + 1, 2, none⟩ = some (eQ) := hD.c2; have c3 : w8.cell? ⟨w.heap.size + 1 + 1, 3, none⟩ = some (zQ) := hD.c3; have c4 : w8.cell? ⟨w.heap.size + 1 + 1, 4, none⟩ = some (eQ) := hD.c4)
 have k3 := j1.size
 have hD := r0.below (Aa w1 j1.out)
 have hE := ((((hD.set 0 (nQ S.p)).set 1 (nQ Ms)).set 2 (.slice A9 mS c9)).set 3 (nQ N)).set 4 (.slice B9 KL KL)
 obtain ⟨q0, q1, q2, q3, q4⟩ := hE.t5
 have m0 := ((((Ad w8 (w.heap.size + 1 + 1) 0 (nQ S.p)).trans (Ad _ (w.heap.size + 1 + 1) 1 (nQ Ms))).trans (Ad _ (w.heap.size + 1 + 1) 2 (.slice A9 mS c9))).trans (Ad _ (w.heap.size + 1 + 1) 3 (nQ N))).trans (Ad _ (w.heap.size + 1 + 1) 4 (.slice B9 KL KL))
 have hB := HW _ (Aa w1 j1.out)
 refine bodyPost_ret (v := .tuple #[.agg #[nQ S.p, nQ Ms, .slice A9 mS c9, nQ N, .slice B9 KL KL], zQ]) (by simp [results, Tryz.results9, go_sem, q0, q1, q2, q3, q4]) rfl ⟨A9, c9, B9, rfl, x1.kept m0 (fun b n0 e h0 => by have := i1 b n0 e h0; omega), (u1.kept m0 (by omega)).mono (by omega), hB.grown m0 hB.size (fun k9 g1 => by simp at g1; omega), fun b n0 e h0 => by have := i1 b n0 e h0; omega⟩
end Go.Proofs.YtoalkldfhkabnaaGreatDoor
