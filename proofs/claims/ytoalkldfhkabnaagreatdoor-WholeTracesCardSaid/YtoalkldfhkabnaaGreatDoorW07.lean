/- Part of WholeTraces. -/
import Derived.Test.YtoalkldfhkabnaaGreatDoorW00
import Derived.Test.YtoalkldfhkabnaaGreatDoorW06
set_option linter.all false
set_option maxRecDepth 10000
set_option maxHeartbeats 16000000
namespace Go.Proofs.YtoalkldfhkabnaaGreatDoor
open Go.RowKit Fq
theorem Vp (w : WQ) (b : Nat) (F : FD) (hG : GFat w b F) (A : OQ) (n c : Nat) (l : NQ) (hr : RdN w A n c l) (hl : Els F l) : cQ 174 #[pQ b, .slice A n c] w (Ba (zQ) w) := by
 have o0 := hr.le63
 have g0 := sK hr.len
 have HE := sK hl
 have n1 : Hid (∀ x, x < F.q -> cQ 181 #[pQ b, iv x] w (Ba (.bool true) w)) := sK fun x hx => mH w b F hG x hx
 go_enter Tryz.func174, Tryz.ntmps174
 go_wp2
 go_loop [9] (fun kv => ∃ k : Nat, k <= n ∧ kv = nQ k) (fun kv => n - (intOf kv).toNat)
 case atStart => exact ⟨0, qe _, rfl⟩
 case round =>
  obtain ⟨k, hk, rfl⟩ := hrel
  by_cases hlt : k < n
  ·obtain ⟨b', d0, rfl, _, l0⟩ := hr.at hlt
   have hx := HE _ (Ap (l := l) (i := k) (by rw [g0.out]; exact hlt) 0); have hc := n1 _ hx; unfold iv at hc; generalize l.getD k 0 = x at *; go_wp2_with (go_at_call 181; refine hc.mono ?_; rintro e w' ⟨rfl, rfl⟩); go_round
   case rel => exact ⟨k + 1, by omega, by go_num⟩
   case measure => simp [intOf]; omega
  ·obtain rfl : k = n := by omega
   go_wp2; go_ret; exact ⟨rfl, rfl⟩
def matV (m : Nat) (A : OQ) (n c : Nat) : Value := .agg #[nQ m, .slice A n c]
theorem aU (w : WQ) (b : Nat) (F : FD) (hG : GFat w b F) (m : Nat) (hm : m <= 256) (A : OQ) (n c : Nat) (R : LQ) (hR : RdM w A n c R) (hn : n <= 256) (hM : Mat F.fld m R) :
  cQ 121 #[pQ b, matV m A n c] w (Ah (zQ) w) := by
 have o0 := hR.le63
 have g0 := sK hR.len
 have HM := sK hM
 have HB : Hid (w.heap.size < (w.alloc (.cells #[nQ m, .slice A n c] 52)).heap.size) := sK (by simp)
 obtain ⟨W, hW⟩ := xQ (w.alloc (.cells #[nQ m, .slice A n c] 52))
 have r0 : Below w.heap.size w W := by rw [hW]; exact Ac _ _
 have i2 : W.cell? ⟨w.heap.size, 0, none⟩ = some (nQ m) := by rw [hW]; go_simp
 have i0 : W.cell? ⟨w.heap.size, 1, none⟩ = some (.slice A n c) := by rw [hW]; go_simp
 have a1 := hR.below r0
 have HE : Hid (∀ k Ak ck, k < n -> RdN W Ak m ck (R.getD k []) -> cQ 174 #[pQ b, .slice Ak m ck] W (Ba (zQ) W)) := sK fun k Ak ck hk h9 => Vp W b F (hG.below r0) Ak m ck _ h9 (Mat.els HM (by rw [g0.out]; exact hk))
 have y0 : Hid (∀ k, k < n -> (R.getD k []).length = m) := sK fun k hk => Mat.len HM (by rw [g0.out]; exact hk)
 unfold matV
 go_enter Tryz.func121, Tryz.ntmps121
 go_wp2
 rw [<- hW]
 clear hW
 go_loop [27] (fun kv => ∃ k : Nat, k <= n ∧ kv = nQ k) (fun kv => n - (intOf kv).toNat)
 case atStart => exact ⟨0, qe _, rfl⟩
 case round =>
  obtain ⟨k, hk, rfl⟩ := hrel
  by_cases hlt : k < n
  ·obtain ⟨b', d0, Ak, ck, rfl, _, l0, _⟩ := a1.at hlt
   rw [y0 k hlt] at l0; go_wp2; go_round
   case rel => exact ⟨k + 1, by omega, by go_num⟩
   case measure => simp [intOf]; omega
  ·obtain rfl : k = n := by omega
   go_wp2; go_loop [40] (fun kv => ∃ j : Nat, j <= k ∧ kv = nQ j) (fun kv => k - (intOf kv).toNat)
   case atStart => exact ⟨0, qe _, rfl⟩
   case round =>
    obtain ⟨j, hj, rfl⟩ := hrel
    by_cases hlt2 : j < k
    ·obtain ⟨b', d0, Aj, cj, rfl, _, l0, e1⟩ := a1.at hlt2
     rw [y0 j hlt2] at l0 e1; have hc := HE j Aj cj hlt2 e1; go_wp2_with (go_at_call 174; refine hc.mono ?_; rintro e w' ⟨rfl, rfl⟩); go_round
     case rel => exact ⟨j + 1, by omega, by go_num⟩
     case measure => simp [intOf]; omega
    ·obtain rfl : j = k := by omega
     go_wp2; go_ret; exact ⟨rfl, r0⟩
def mU (base bv n c : Nat) (l : NQ) (w : WQ) (e : Ending) (w' : WQ) : Prop :=
 (∃ v, e = .returned v) ∧ OwnN w' base (sQ bv) n c l ∧ w.grownBy w' (some bv)
theorem Yy {F : FD} (h : F.fld.Ok) {V U : NQ} {a : Nat} (ha : a < F.q) (hV : Els F V) (hU : Els F U) : Els F (addRow F.fld V a U) := Gf h ha hV hU
theorem Kt {w w' : WQ} {A : OQ} {m d : Nat} {u : NQ} (hu : RdN w A m d u) {r : Option Nat} (hg : w.grownBy w' r) (hn : ∀ b d0, A = some ⟨b, d0, none⟩ -> 0 < m -> r ≠ some b) : RdN w' A m d u := by
 cases r with
 | none => exact hu.below ⟨hg.os, hg.tape, hg.output, hg.size, fun k hk => hg.block k hk (by simp)⟩
 | some r => exact hu.kept hg fun b d0 e hm e2 => hn b d0 e hm (by rw [e2])
theorem lN (w0 w : WQ) (b : Nat) (F : FD) (hG : GFat w0 b F) (h0 : Below w0.heap.size w0 w) (base bv n c : Nat) (hb0 : w0.heap.size <= base) (V : NQ) (hV : OwnN w base (sQ bv) n c V) (hVe : Els F V) (a : Nat) (ha : a < F.q)
  (bu ou cu : Nat) (U : NQ) (hU : RdN w (some ⟨bu, ou, none⟩) n cu U) (hUe : Els F U) (hne : bu ≠ bv) (hn : n <= 1000) :
  cQ 180 #[pQ b, .slice (sQ bv) n c, iv a, .slice (some ⟨bu, ou, none⟩) n cu] w (mU base bv n c (addRow F.fld V a U) w) := by
 have o0 := hV.le
 have f2 := hU.cap
 have t1 := hU.max
 unfold maxLen at o0 t1
 have a0 := hG.ok
 have hq := a0.q256
 have w1 := a0.fldOk
 have c0 := sK hV.len
 have z0 := sK hU.len
 have d2 := sK hVe
 have c2 := sK hUe
 have e0 : Hid ((addRow F.fld V a U).length = n) := sK (Bv c0 z0.out)
 have o1 : Hid (∀ k, k < n -> (addRow F.fld V a U).getD k 0 = F.add (V.getD k 0) (F.mul a (U.getD k 0))) := sK fun k hk => Co c0 z0 hk
 have g2 : base <= bv ∧ bv < w.heap.size := by
  rcases hV.form with ⟨h1, _⟩ | ⟨g, h1, h2, h3, _⟩
  ·cases h1
  ·simp only [qc, qd, and_true] at h1
   omega
 have m1 : Hid (∀ wr, w.grownBy wr (some bv) -> GFat wr b F) := sK fun wr hg => hG.keep (h0.grown hg h0.size (fun k9 d1 => by injection d1 with d1; omega)) (qb _)
 have r1 := sK hU
 have z1 : Hid (∀ x y, x < F.q -> y < F.q -> F.add x y < F.q) := sK fun x y _ _ => a0.add_lt x y
 have a2 : Hid (∀ x y, F.mul x y < F.q) := sK fun x y => a0.mul_lt x y
 have H0 : Hid (∀ x, x < F.q -> F.add x (F.mul a 0) = x) := sK fun x hx => by rw [a0.mul_zero]; exact w1.add0 x hx
 have k1 : Hid (∀ k, V.getD k 0 < F.q) := sK fun k => hVe.at a0 k
 have j1 : Hid (∀ k, U.getD k 0 < F.q) := sK fun k => hUe.at a0 k
 clear hU hVe hUe h0 hG
 unfold iv
 generalize addRow F.fld V a U = NX at *
 go_enter Tryz.func180, Tryz.ntmps180
 go_wp2
 go_loopw [12] (fun kv wr => ∃ k : Nat, k <= n ∧ kv = nQ k ∧ OwnN wr base (sQ bv) n c (mixL NX V k) ∧ w.grownBy wr (some bv)) (fun kv _ => n - (intOf kv).toNat)
 case atStart => exact ⟨0, qe _, rfl, by rw [Cz]; exact hV, Uq _ _⟩
 case round =>
  clear hV; obtain ⟨k, hk, rfl, hO, hg⟩ := hrel
  by_cases hlt : k < n
  ·have b1 := Kt r1 hg (fun g9 o9 e9 _ e8 => by simp only [qc, qd, and_true] at e9 e8; omega)
   have v1 := b1.cellAt hlt; have m0 := hO.cell hlt; rw [Ep e0 c0 (qb k) hlt] at m0; have f0 := o1 k hlt; have y1 := j1 k; have f1 := k1 k; have q0 := m1 wr hg; have n0 := fun (w' : WQ) (u1 : Below wr.heap.size wr w') => (hO.below u1).set k (x := NX.getD k 0) (by rw [f0]; have := a0.add_lt (V.getD k 0) (F.mul a (U.getD k 0)); omega)
   rw [Cu e0 c0 hlt] at n0; have v0 := hO.free k; clear b1
   by_cases hu0 : U.getD k 0 = 0
   ·have x1 : OwnN wr base (sQ bv) n c (mixL NX V (k + 1)) := by
     have e9 : mixL NX V (k + 1) = mixL NX V k := by
      have h9 := Cu e0 c0 hlt; rw [<- h9, f0, hu0, H0 _ f1, <- Ep e0 c0 (qb k) hlt]; refine Tq (by rw [qai]) fun j h1 h2 => ?_
      rw [qch]; split
      ·rename_i h3
       subst h3; rw [qa, qh h2]; rfl
      ·rfl
     rw [e9]; exact hO
    have c1 : ((U.getD k 0 : Int) != 0) = false := by rw [hu0]; rfl
    clear n0 hu0 f0 hO; generalize U.getD k 0 = u at *; generalize V.getD k 0 = v at *; go_wp2; go_roundw
    case rel => exact ⟨k + 1, by omega, by go_num, x1, hg⟩
    case measure => simp [intOf]; omega
   ·have c1 : ((U.getD k 0 : Int) != 0) = true := by rw [bne_iff_ne]; omega
    have i0 := fun (wx : WQ) (hx : From wr wx) => Fy wx b F (q0.below hx) a _ ha y1
    have j0 := fun (wx : WQ) (hx : From wr wx) => Hh wx b F (q0.below hx) _ _ f1 (a0.mul_lt a (U.getD k 0))
    rw [<- f0] at j0; have j2 := a0.mul_lt a (U.getD k 0); have q1 := sK n0; have HO := sK hO; clear n0 hu0 f0 q0 hO; generalize U.getD k 0 = u at *; generalize V.getD k 0 = v at *; generalize F.mul a u = au at *; generalize NX.getD k 0 = nx at *; unfold iv at i0 j0; have g1 := sK i0; have i1 := sK j0; have x0 := sK m0; have l1 := sK v0; have t0 : bv < wr.heap.size := by have := hg.size; omega
    clear i0 j0 v0; go_wp2; clear v1 m0 c1; have s1 : From wr wr := From.refl wr; refine wpT 13 33 [.v (.slice (sQ bv) n c), .v (nQ k), .v (pQ b), .v (.slice (sQ bv) n c), .v (nQ k), .v (.pointer (some ⟨bv, k, none⟩)), .v (nQ v), .v (pQ b), .v (nQ a), .v (nQ u), .v (nQ au), .v (nQ nx), .v (.pointer (some ⟨bv, k, none⟩))] wr (by kernel_rfl) (by kernel_rfl) (by kernel_rfl) rfl (From.drew s1) ?_; simp only [Tk]
    iterate 13 (refine .z (fun wx hx _ hK => by first | (go_simp; exact Kz hK) | (have hc := (hx.cell (p := ⟨bv, k, none⟩) t0).trans x0.out; go_simp; exact Kz hK) | (go_simp; refine (g1 wx hx).mono ?_; rintro e w' ⟨rfl, j, rfl⟩; exact hK.out _ _ rfl (Ae (bR) _)) | (go_simp; refine (i1 wx hx).mono ?_; rintro e w' ⟨rfl, j, rfl⟩; exact hK.out _ _ rfl (Ae (bR) _))) ?_; simp only [Pt])
    refine .nil fun W5 b0 _ => ?_
    have m0 := (b0.cell (p := ⟨bv, k, none⟩) t0).trans x0.out; have v0 := (b0.frozen (p := ⟨bv, k, none⟩) t0).trans l1.out; go_wp2; go_roundw
    case rel => exact ⟨k + 1, by omega, by go_num, q1 _ b0, (hg.trans ⟨b0.os, b0.tape, b0.output, b0.size, fun i hi _ => b0.block i hi⟩).trans (Ad W5 bv k _)⟩
    case measure => simp [intOf]; omega
  ·obtain rfl : k = n := by omega
   rw [Dp e0 c0.out] at hO; go_wp2; go_end0; exact ⟨⟨_, rfl⟩, hO, hg⟩
theorem mY (w0 w : WQ) (b : Nat) (F : FD) (hG : GFat w0 b F) (h0 : Below w0.heap.size w0 w) (base bv n c : Nat) (hb0 : w0.heap.size <= base) (V : NQ) (hV : OwnN w base (sQ bv) n c V) (hVe : Els F V) (a : Nat) (ha : a < F.q)
  (bu cu : Nat) (U : NQ) (hU : OwnN w base (sQ bu) n cu U) (hUe : Els F U) (hne : bu ≠ bv) (hn : n <= 1000) :
  cQ 180 #[pQ b, .slice (sQ bv) n c, iv a, .slice (sQ bu) n cu] w (mU base bv n c (addRow F.fld V a U) w) :=
 lN w0 w b F hG h0 base bv n c hb0 V hV hVe a ha bu 0 cu U hU.rd hUe hne hn
structure Mats (w : WQ) (F : FD) (bs k : Nat) (m n c : Nat -> Nat) (A : Nat -> OQ) (R : Nat -> LQ) : Prop where
 lt : bs < w.heap.size
 c0 : ∀ i, i < k -> w.cell? ⟨bs, i * 2, none⟩ = some (nQ (m i))
 c1 : ∀ i, i < k -> w.cell? ⟨bs, i * 2 + 1, none⟩ = some (.slice (A i) (n i) (c i))
 rd : ∀ i, i < k -> RdM w (A i) (n i) (c i) (R i)
 ok : ∀ i, i < k -> m i <= 256 ∧ n i <= 256 ∧ Mat F.fld (m i) (R i)
theorem Mats.below {w w' : WQ} {F : FD} {bs k : Nat} {m n c : Nat -> Nat} {A : Nat -> OQ} {R : Nat -> LQ} (h : Mats w F bs k m n c A R) (hb : Below w.heap.size w w') : Mats w' F bs k m n c A R :=
 ⟨qk h.lt hb.size, fun i hi => (hb.cell (p := ⟨bs, i * 2, none⟩) h.lt).trans (h.c0 i hi), fun i hi => (hb.cell (p := ⟨bs, i * 2 + 1, none⟩) h.lt).trans (h.c1 i hi), fun i hi => (h.rd i hi).below hb, h.ok⟩
theorem Hl (w : WQ) (F : FD) (hF : F.Ok) (A : OQ) (c : Nat) (hmod : RdN w A (modL F).length c (modL F)) (bs k kc : Nat) (hk : k <= 1000) (hkc : k <= kc ∧ kc <= maxLen) (m n c' : Nat -> Nat) (B : Nat -> OQ) (R : Nat -> LQ) (hM : Mats w F bs k m n c' B R) :
  cQ 63 #[Ax F A c, .slice (sQ bs) k kc] w (Ga F w) := by
 have q0 := hkc.2
 unfold maxLen at q0
 obtain ⟨mL, l0⟩ := xQ ((modL F).length)
 obtain ⟨M, g0⟩ := xQ (F.m + 1)
 have e1 : Ax F A c = .agg #[nQ F.p, nQ M, .slice A mL c] := by rw [g0, l0]; rfl
 have m0 := fun w' (hb : Below w.heap.size w w') => Kv w' F hF A c (hmod.below hb)
 have e0 := sK m0
 have HM := sK hM
 clear m0 g0 l0 hmod hM
 rw [e1] at e0 ⊢
 clear e1
 go_enter Tryz.func63, Tryz.ntmps63
 go_wp2_with (go_at_call 54; refine (e0 _ (Ac _ _)).mono ?_; rintro e w2 ⟨b, rfl, n0, hG, i0⟩)
 have b0 : Below w.heap.size w w2 := (Ac _ _).trans (i0.mono (by simp))
 have HG := sK hG
 simp only [qi] at n0
 clear i0 hG
 go_loopw [20] (fun kv wr => ∃ i : Nat, i <= k ∧ kv = nQ i ∧ Below w2.heap.size w2 wr) (fun kv _ => k - (intOf kv).toNat)
 case atStart => exact ⟨0, qe _, rfl, bR⟩
 case round =>
  obtain ⟨i, hi, rfl, hb⟩ := hrel
  by_cases hlt : i < k
  ·have a0 := HM.below (b0.trans (hb.mono b0.size))
   have r0 := a0.c0 i hlt; have t0 := a0.c1 i hlt; obtain ⟨h9, h8, h7⟩ := a0.ok i hlt; have f0 := HG.below hb; have j0 := fun w' (h0 : Below wr.heap.size wr w') => aU w' b F (f0.below h0) (m i) h9 (B i) (n i) (c' i) (R i) ((a0.rd i hlt).below h0) h8 h7
   have d0 := sK j0; have v0 := a0.lt; clear a0 j0 f0 h7; unfold matV at d0; generalize m i = mi at *; generalize n i = ni at *; generalize c' i = ci at *; generalize B i = Bi at *; go_wp2_with (go_at_call 121; refine (d0 _ (Ac _ _)).mono ?_; rintro e w4 ⟨rfl, o0⟩); go_roundw
   case rel => exact ⟨i + 1, by omega, by go_num, hb.trans (((Ac _ _).trans (o0.mono (by simp))).mono hb.size)⟩
   case measure => simp [intOf]; omega
  ·obtain rfl : i = k := by omega
   go_wp2; go_ret2; exact ⟨b, rfl, by omega, HG.below hb, b0.trans (hb.mono b0.size)⟩
def prm (i k j : Nat) : Nat := if j = k then i else if j = i then k else j
theorem Pv {i k j n : Nat} (hi : i < n) (hk : k < n) (hj : j < n) : prm i k j < n := by unfold prm; split <;> (try split) <;> omega
theorem pJ {i k j j' : Nat} (h : prm i k j = prm i k j') : j = j' := by
 unfold prm at h
 split at h <;> split at h <;> (try split at h) <;> (try split at h) <;> omega
theorem Jo {α : Type} (d : α) (l : List α) {i k : Nat} (hi : i < l.length) (hk : k < l.length) (j : Nat) : ((l.set i (l.getD k d)).set k (l.getD i d)).getD j d = l.getD (prm i k j) d := by
 unfold prm
 by_cases h1 : j = k
 ·subst h1; rw [if_pos rfl]; exact Cm _ _ _ (by simpa using hk)
 ·rw [if_neg h1, Fc _ _ _ (fun e => h1 e.symm)]
  by_cases h2 : j = i
  ·subst h2; rw [if_pos rfl]; exact Cm _ _ _ hi
  ·rw [if_neg h2, Fc _ _ _ (fun e => h2 e.symm)]
section
variable {w w' : WQ} {base g n c : Nat} {vs : VQ} {R : LQ}
def Hj (vs : VQ) (i k : Nat) : VQ := (vs.set i (vs.getD k undef)).set k (vs.getD i undef)
theorem Az.swap (h : Az w base g n c vs R) {i k : Nat} (hi : i < n) (hk : k < n) :
  Az ((w.setCell ⟨g, i, none⟩ (vs.getD k undef)).setCell ⟨g, k, none⟩ (vs.getD i undef)) base g n c (Hj vs i k) (Cf R i k) := by
 have v0 := h.grid.lenV
 have b0 := h.len
 have g1 := h.grid.outer.stored i (vs.getD k undef)
 have g2 := g1.1.stored k (vs.getD i undef)
 have hg : w.grownBy ((w.setCell ⟨g, i, none⟩ (vs.getD k undef)).setCell ⟨g, k, none⟩ (vs.getD i undef)) (some g) := (Ad w g i _).trans (Ad _ g k _)
 have e1 : ∀ j, (Hj vs i k).getD j undef = vs.getD (prm i k j) undef := fun j => Jo undef vs (by omega) (by omega) j
 have e2 : ∀ j, ((Cf R i k).map ivs).getD j [] = (R.map ivs).getD (prm i k j) [] := fun j => by
  rw [Bu, Bu]; exact congrArg ivs (Jo [] R (by omega) (by omega) j)
 refine ⟨⟨g2.1, by rw [qak, Eh, b0], fun j hj => ?_, fun j hj b hb => ?_⟩, fun r hr => ?_⟩
 ·obtain ⟨m, hm⟩ := h.grid.inner (prm i k j) (Pv hi hk hj)
  rw [e1, e2]; refine ⟨m, hm.kept hg ?_⟩
  cases hv : (vs.getD (prm i k j) undef).ownBlock with
  | none => exact .inl rfl
  | some b =>
   refine .inr fun e => ?_
   injection e with e
   subst e; exact (h.grid.apart _ (Pv hi hk hj) _ hv).1 rfl
 ·rw [e1] at hb
  obtain ⟨h1, h2⟩ := h.grid.apart _ (Pv hi hk hj) b hb; refine ⟨h1, fun j' h0 a0 => ?_⟩; rw [e1] at a0; exact pJ (h2 _ (Pv hi hk h0) a0)
 ·obtain ⟨j, hj, rfl⟩ := Iq.1 hr
  rw [Eh] at hj; have : (Cf R i k)[j]'(by rw [Eh]; exact hj) = R.getD (prm i k j) [] := by
   have := Jo [] R (i := i) (k := k) (by omega) (by omega) j; rw [<- this]; simp [Cf, qa, hj]
  rw [this]; exact h.smAt _
theorem Az.fill (h : Az w base g n c vs R) {i : Nat} (hi : i < n) {b m d : Nat} {l : NQ} (hv : vs.getD i undef = .slice (sQ b) m d) (hg : w.grownBy w' (some b)) (ho : OwnN w' base (sQ b) m d l) :
  Az w' base g n c vs (R.set i l) := by
 have j0 : (vs.getD i undef).ownBlock = some b := by rw [hv]; rfl
 obtain ⟨ha, hb⟩ := h.grid.apart i hi b j0
 have b0 := h.len
 refine ⟨⟨h.grid.outer.kept hg (.inr ha), by simp [b0], fun j hj => ?_, h.grid.apart⟩, fun r hr => ?_⟩
 ·rw [Bu]
  by_cases hij : i = j
  ·subst hij
   rw [Cm _ _ _ (by omega), hv]; exact ⟨m, ho.row⟩
  ·rw [Fc _ _ _ hij]
   obtain ⟨m', e0⟩ := h.grid.inner j hj; rw [Bu] at e0; exact ⟨m', e0.kept hg (.inr fun e9 => hij (hb j hj e9).symm)⟩
 ·rcases Oq hr with h1 | h1
  ·exact h.sm _ h1
  ·rw [h1]; exact ho.sm
def Off (vs : VQ) (n : Nat) (X : NQ) : Prop := ∀ j b, j < n -> (vs.getD j undef).ownBlock = some b -> b ∉ X
theorem Off.swap {X : NQ} {i k : Nat} (h : Off vs n X) (hl : vs.length = n) (hi : i < n) (hk : k < n) : Off (Hj vs i k) n X := fun j b hj hb => by
 have e := Jo undef vs (i := i) (k := k) (by omega) (by omega) j
 unfold Hj at hb
 rw [e] at hb
 exact h _ b (Pv hi hk hj) hb
theorem Off.put {X : NQ} {i b m d : Nat} (h : Off vs n X) (hl : vs.length = n) (hi : i < n) (hb : b ∉ X) : Off (vs.set i (.slice (sQ b) m d)) n X := fun j b' hj a0 => by
 by_cases hij : i = j
 ·subst hij
  rw [Cm _ _ _ (by omega)] at a0; have : b = b' := by simpa [Value.ownBlock] using a0
  rw [<- this]; exact hb
 ·rw [Fc _ _ _ hij] at a0
  exact h j b' hj a0
theorem Off.more {X : NQ} {S : Nat} (h : Off vs n X) (hg : Az w base g n c vs R) (hS : w.heap.size <= S) : Off vs n (S :: X) := fun j b hj hb hm => by
 rcases qx.1 hm with h1 | h1
 ·have := hg.blkLt hj hb
  omega
 ·exact h j b hj hb h1
theorem Off.less {X Y : NQ} (h : Off vs n X) (hs : ∀ x ∈ Y, x ∈ X) : Off vs n Y := fun j b hj hb hm => h j b hj hb (hs b hm)
end
theorem eG (w : WQ) (base g n c : Nat) (vs : VQ) (R : LQ) (hG : Az w base g n c vs R) (m : Nat) (hm : ∀ r ∈ R, r.length = m) (hm0 : 0 < m) (i k : Nat) (hi : i < n) (hk : k < n) (hik : i ≠ k) (bk bi : Nat)
  (hbk : w.cell? ⟨bk, 0, none⟩ = some (nQ k)) (hbi : w.cell? ⟨bi, 0, none⟩ = some (nQ i)) (hbkg : bk ≠ g) (hbig : bi ≠ g) :
  cQ 176 #[.slice (sQ g) n c, pQ bk, pQ bi] w fun e w' => (∃ v, e = .returned v) ∧ Az w' base g n c (Hj vs i k) (Cf R i k) ∧ w.grownBy w' (some g) := by
 have f0 := hG.head
 have i0 := f0.2.2.2
 unfold maxLen at i0
 have c0 : ∀ j, j < n -> ∃ b d, vs.getD j undef = .slice (sQ b) m d ∧ w.cell? ⟨g, j, none⟩ = some (.slice (sQ b) m d) := fun j hj => by
  have hl : (R.getD j []).length = m := hm _ (Ap (by rw [hG.len]; exact hj) _); obtain ⟨b, d, h1, h2, _⟩ := hG.row hj (by omega); rw [hl] at h1 h2; exact ⟨b, d, h1, h2⟩
 obtain ⟨b1, d1, l0, n0⟩ := c0 i hi
 obtain ⟨b2, d2, m0, o0⟩ := c0 k hk
 have q0 := hG.slotFree i
 have r0 := hG.slotFree k
 have d0 := fun (w' : WQ) (hb : Below w.heap.size w w') => (hG.below hb).swap hi hk
 rw [l0, m0] at d0
 have g0 := sK d0
 have t0 := f0.2.1
 clear d0 hG c0 hm
 go_enter Tryz.func176, Tryz.ntmps176
 go_region
 all_goals
  go_end0; refine ⟨⟨_, rfl⟩, ?_, ?_⟩
  ·have h9 := g0 w.drew (bR).drew
   exact h9
  ·have h9 := (Ad w.drew g i (.slice (sQ b2) m d2)).trans (Ad _ g k (.slice (sQ b1) m d1))
   exact ⟨h9.os, h9.tape, h9.output, h9.size, h9.block⟩
def qV (base g n c m : Nat) (vs : VQ) (R : LQ) (i : Nat) (l : NQ) (w : WQ) (e : Ending) (w' : WQ) : Prop :=
 ∃ b d, (∃ v, e = .returned v) ∧ Az w' base g n c (vs.set i (.slice (sQ b) m d)) (R.set i l) ∧ w.heap.size <= b ∧ b < w'.heap.size ∧ w.grownBy w' (some g)
theorem Aw {w w' : WQ} (h : From w w') (r : Option Nat) : w.grownBy w' r := ⟨h.os, h.tape, h.output, h.size, fun i hi _ => h.block i hi⟩
theorem Zb (w0 w : WQ) (b : Nat) (F : FD) (hGF : GFat w0 b F) (h0 : Below w0.heap.size w0 w) (base g n c : Nat) (vs : VQ) (R : LQ) (hG : Az w base g n c vs R) (m : Nat) (hM : Mat F.fld m R) (hm0 : 0 < m) (hm9 : m <= 1000) (i : Nat) (hi : i < n) (z : Nat) (hz : z < F.q) (bg bz bi : Nat)
  (hbg : w.cell? ⟨bg, 0, none⟩ = some (pQ b)) (hbz : w.cell? ⟨bz, 0, none⟩ = some (nQ z)) (hbi : w.cell? ⟨bi, 0, none⟩ = some (nQ i)) (hbl : bg < w.heap.size ∧ bz < w.heap.size ∧ bi < w.heap.size) :
  cQ 178 #[.slice (sQ g) n c, pQ bg, pQ bz, pQ bi] w (qV base g n c m vs R i (Bb F.fld z (R.getD i [])) w) := by
 have g0 := hG.head
 have q0 := g0.2.2.2
 unfold maxLen at q0
 have f0 : i < R.length := by rw [hG.len]; exact hi
 have hl : (R.getD i []).length = m := Mat.len hM f0
 obtain ⟨b1, d1, d0, c0, v1, _, b0⟩ := hG.row hi (by omega)
 rw [hl] at d0 c0 b0
 have e1 := hG.slotFree i
 have c1 := fun (wx : WQ) (hx : From w wx) => Iv wx b F ((hGF.keep h0 (qb _)).below hx) z hz (sQ b1) m d1 _ (b0.below hx).rd (Mat.els hM f0) hm9
 have v0 := sK c1
 have j0 := sK c0
 have m1 := sK e1
 have i0 := sK hbg
 have k1 := sK hbz
 have l0 := sK hbi
 have HG := sK hG
 have e0 := g0.2.1
 clear c1 hG b0 hl hM hGF h0 c0 e1 hbg hbz hbi
 generalize Bb F.fld z (R.getD i []) = L at *
 unfold iv at v0
 go_enter Tryz.func178, Tryz.ntmps178
 have m0 : From w w := From.refl w
 refine wpT 10 15 [.v (.slice (sQ g) n c), .v (nQ i), .v (pQ b), .v (nQ z), .v (.slice (sQ g) n c), .v (nQ i), .v (.pointer (some ⟨g, i, none⟩)), .v (.slice (sQ b1) m d1), .r (Gs w.heap.size m L) Gs.lasting, .v (.pointer (some ⟨g, i, none⟩))] w (by kernel_rfl) (by kernel_rfl) (by kernel_rfl) rfl (From.drew m0) ?_
 simp only [Tk]
 iterate 8 (refine .z (fun wx hx _ hK => by first | (go_simp; exact Kz hK) | (have hc := (hx.cell (p := ⟨bi, 0, none⟩) hbl.2.2).trans l0.out; go_simp; exact Kz hK) | (have hc := (hx.cell (p := ⟨bg, 0, none⟩) hbl.1).trans i0.out; go_simp; exact Kz hK) | (have hc := (hx.cell (p := ⟨bz, 0, none⟩) hbl.2.1).trans k1.out; go_simp; exact Kz hK) | (have hc := (hx.cell (p := ⟨g, i, none⟩) e0).trans j0.out; go_simp; exact Kz hK)) ?_; simp only [Pt])
 refine .r (fun wx hx hd KK hK => ?_) (fun g2 => ?_)
 ·clear hd
  go_simp; refine (v0 wx hx).mono ?_; rintro e w' ⟨A', cc, rfl, ho, r1⟩; exact hK.out _ _ ⟨A', cc, rfl, ho.mono hx.size⟩ r1
 simp only [Pt]
 refine .z (fun _ _ _ hK => by go_simp; exact Kz hK) ?_; simp only [Pt]
 refine .nil fun w1 a0 hd => ?_
 obtain ⟨a2, o1, rfl, y0⟩ := hd _ (.head _)
 clear hd
 have e2 := (a0.cell (p := ⟨g, i, none⟩) e0).trans j0.out
 have f2 := (a0.frozen (p := ⟨g, i, none⟩) e0).trans m1.out
 obtain ⟨b9, rfl, s1, t1⟩ := y0.block hm0
 go_wp2
 go_end0
 have u1 : base <= w.heap.size := by omega
 have q1 := (HG.below a0).put hi (y0.mono u1) ⟨by omega, fun j hj _ e => by have := HG.blkLt hj e; omega⟩
 exact ⟨b9, o1, ⟨_, rfl⟩, q1, s1, by simpa [World.setCell] using t1, (Aw a0 _).trans (Ad w1 g i _)⟩
def aL (base g n c bv : Nat) (vs : VQ) (R : LQ) (w : WQ) (e : Ending) (w' : WQ) : Prop :=
 (∃ v, e = .returned v) ∧ Az w' base g n c vs R ∧ w.grownBy w' (some bv)
theorem Ks (w0 w : WQ) (b : Nat) (F : FD) (hGF : GFat w0 b F) (h0 : Below w0.heap.size w0 w) (base g n c : Nat) (hb0 : w0.heap.size <= base) (vs : VQ) (R : LQ) (hG : Az w base g n c vs R) (m : Nat) (hM : Mat F.fld m R) (hm0 : 0 < m) (hm9 : m <= 1000) (i a : Nat) (hi : i < n) (ha : a < n) (hia : i ≠ a) (x : Nat) (hx : x < F.q) (bg bi bx ba : Nat)
  (hbg : w.cell? ⟨bg, 0, none⟩ = some (pQ b)) (hbi : w.cell? ⟨bi, 0, none⟩ = some (nQ i)) (hbx : w.cell? ⟨bx, 0, none⟩ = some (nQ x)) (hba : w.cell? ⟨ba, 0, none⟩ = some (nQ a)) (hbl : bg < w.heap.size ∧ bi < w.heap.size ∧ bx < w.heap.size ∧ ba < w.heap.size) (bv : Nat) (hbv : (vs.getD i undef).ownBlock = some bv) :
  cQ 179 #[.slice (sQ g) n c, pQ bg, pQ bi, pQ bx, pQ ba] w (aL base g n c bv vs (R.set i (addRow F.fld (R.getD i []) (F.neg x) (R.getD a []))) w) := by
 have g0 := hG.head
 have q0 := g0.2.2.2
 unfold maxLen at q0
 have f0 : i < R.length := by rw [hG.len]; exact hi
 have a1 : a < R.length := by rw [hG.len]; exact ha
 have hl : (R.getD i []).length = m := Mat.len hM f0
 have g1 : (R.getD a []).length = m := Mat.len hM a1
 obtain ⟨b1, d1, d0, c0, v1, _, b0⟩ := hG.row hi (by omega)
 obtain ⟨b2, d2, r0, o0, c2, _, n0⟩ := hG.row ha (by omega)
 rw [hl] at d0 c0 b0
 rw [g1] at r0 o0 n0
 have y1 : b2 ≠ b1 := fun e => hia ((hG.grid.apart a ha b2 (by rw [r0]; rfl)).2 i hi (by rw [d0, e]; rfl))
 have x1 : b1 = bv := by rw [d0] at hbv; simpa [Value.ownBlock] using hbv
 subst x1
 have h1 := fun (wx : WQ) (h9 : From w wx) => Tn wx b F ((hGF.keep h0 (qb _)).below h9) x hx
 have z0 := fun (wx : WQ) (h9 : From w wx) => mY w0 wx b F hGF (Aa h9 h0) base b1 m d1 hb0 _ (b0.below h9) (Mat.els hM f0) (F.neg x) (hGF.ok.neg_lt x) b2 d2 _ (n0.below h9) (Mat.els hM a1) y1 hm9
 have x0 := sK h1
 have t0 := sK z0
 have j0 := sK c0
 have l1 := sK o0
 have i0 := sK hbg
 have j1 := sK hbx
 have l0 := sK hbi
 have i1 := sK hba
 have HG := sK hG
 have n1 := sK d0
 have e0 := g0.2.1
 clear h1 z0 hG b0 n0 hl g1 hM hGF h0 c0 o0 hbg hbx hbi hba hbv d0 r0
 generalize addRow F.fld (R.getD i []) (F.neg x) (R.getD a []) = L at *
 unfold iv at x0 t0
 generalize F.neg x = nx at *
 go_enter Tryz.func179, Tryz.ntmps179
 have m0 : From w w := From.refl w
 refine wpT 12 19 [.v (pQ b), .v (.slice (sQ g) n c), .v (nQ i), .v (.pointer (some ⟨g, i, none⟩)), .v (.slice (sQ b1) m d1), .v (pQ b), .v (nQ x), .v (nQ nx), .v (.slice (sQ g) n c), .v (nQ a), .v (.pointer (some ⟨g, a, none⟩)), .v (.slice (sQ b2) m d2)] w (by kernel_rfl) (by kernel_rfl) (by kernel_rfl) rfl (From.drew m0) ?_
 simp only [Tk]
 refine .z (fun wx hx _ hK => by have hc := (hx.cell (p := ⟨bg, 0, none⟩) hbl.1).trans i0.out; go_simp; exact Kz hK) ?_; simp only [Pt]
 refine .z (fun _ _ _ hK => by go_simp; exact Kz hK) ?_; simp only [Pt]
 refine .z (fun wx hx _ hK => by have hc := (hx.cell (p := ⟨bi, 0, none⟩) hbl.2.1).trans l0.out; go_simp; exact Kz hK) ?_; simp only [Pt]
 refine .z (fun _ _ _ hK => by go_simp; exact Kz hK) ?_; simp only [Pt]
 refine .z (fun wx hx _ hK => by have hc := (hx.cell (p := ⟨g, i, none⟩) e0).trans j0.out; go_simp; exact Kz hK) ?_; simp only [Pt]
 refine .z (fun wx hx _ hK => by have hc := (hx.cell (p := ⟨bg, 0, none⟩) hbl.1).trans i0.out; go_simp; exact Kz hK) ?_; simp only [Pt]
 refine .z (fun wx hx _ hK => by have hc := (hx.cell (p := ⟨bx, 0, none⟩) hbl.2.2.1).trans j1.out; go_simp; exact Kz hK) ?_; simp only [Pt]
 refine .z (fun wx hx _ hK => by go_simp; refine (x0 wx hx).mono ?_; rintro e w' ⟨rfl, j, rfl⟩; exact hK.out _ _ rfl (Ae (bR) _)) ?_; simp only [Pt]
 refine .z (fun _ _ _ hK => by go_simp; exact Kz hK) ?_; simp only [Pt]
 refine .z (fun wx hx _ hK => by have hc := (hx.cell (p := ⟨ba, 0, none⟩) hbl.2.2.2).trans i1.out; go_simp; exact Kz hK) ?_; simp only [Pt]
 refine .z (fun _ _ _ hK => by go_simp; exact Kz hK) ?_; simp only [Pt]
 refine .z (fun wx hx _ hK => by have hc := (hx.cell (p := ⟨g, a, none⟩) e0).trans l1.out; go_simp; exact Kz hK) ?_; simp only [Pt]
 refine .nil fun w1 a0 _ => ?_
 go_wp2_with (go_at_call 180; refine (t0 w1 a0).mono ?_; rintro e w2 ⟨⟨v9, rfl⟩, z1, f1⟩)
 go_end0
 exact ⟨⟨_, rfl⟩, (HG.below a0).fill hi n1 f1 z1, (Aw a0 _).trans f1⟩
end Go.Proofs.YtoalkldfhkabnaaGreatDoor
