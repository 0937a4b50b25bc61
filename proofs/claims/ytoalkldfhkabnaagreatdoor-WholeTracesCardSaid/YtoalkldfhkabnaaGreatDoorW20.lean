/- Part of WholeTraces. -/
import Derived.Test.YtoalkldfhkabnaaGreatDoorW00
import Derived.Test.YtoalkldfhkabnaaGreatDoorW10
import Derived.Test.YtoalkldfhkabnaaGreatDoorW11
import Derived.Test.YtoalkldfhkabnaaGreatDoorW18
import Derived.Test.YtoalkldfhkabnaaGreatDoorW19
set_option linter.all false
set_option maxRecDepth 10000
set_option maxHeartbeats 16000000
namespace Go.Proofs.YtoalkldfhkabnaaGreatDoor
open Go.RowKit Fq
structure RdMn (w : WQ) (r : Nat) (A : OQ) (n c : Nat) (R : LQ) : Prop where
 rd : RdM w A n c R
 ne : ∀ b a0, A = some ⟨b, a0, none⟩ -> 0 < n -> b ≠ r ∧ ∀ i, i < n -> ∀ Ai ci b' o', w.cell? ⟨b, a0 + i, none⟩ = some (.slice Ai (R.getD i []).length ci) -> Ai = some ⟨b', o', none⟩ -> 0 < (R.getD i []).length -> b' ≠ r
section
variable {w w' : WQ} {A : OQ} {n c r : Nat} {R : LQ}
theorem RdM.lt (h : RdM w A n c R) {b a0 : Nat} (e : A = some ⟨b, a0, none⟩) (hn : 0 < n) : b < w.heap.size := by
 obtain ⟨b', r0, e', h1, _⟩ := h.cells hn
 rw [e] at e'
 simp only [qc, qd] at e'
 omega
theorem RdMn.set (h : RdMn w r A n c R) (k : Nat) (v : Value) : RdMn (w.setCell ⟨r, k, none⟩ v) r A n c R := by
 have hg := Ad w r k v
 have i0 : ∀ b o, b ≠ r -> (w.setCell ⟨r, k, none⟩ v).cell? ⟨b, o, none⟩ = w.cell? ⟨b, o, none⟩ := fun b o hb => by
  cases hc : w.cell? ⟨b, o, none⟩ with
  | some u => exact hg.cell hc (fun e => hb (by simpa using e))
  | none =>
   have : (w.setCell ⟨r, k, none⟩ v).heap[b]? = w.heap[b]? := by
    simp [World.setCell, Array.getElem?_modify, Ne.symm hb]
   unfold World.cell? at hc ⊢; simp only at hc ⊢; rw [this]; exact hc
 refine ⟨⟨h.rd.len, h.rd.cap, h.rd.max, fun h0 => ?_⟩, fun b a0 e h0 => ?_⟩
 ·obtain ⟨b, a0, e, hb, hc⟩ := h.rd.cells h0
  obtain ⟨h1, h2⟩ := h.ne b a0 e h0; refine ⟨b, a0, e, by simpa [World.setCell] using hb, fun i hi => ?_⟩; obtain ⟨Ai, ci, h3, h4⟩ := hc i hi; exact ⟨Ai, ci, by rw [i0 _ _ h1]; exact h3, h4.kept hg fun b' o' e' b0 => h2 i hi Ai ci b' o' h3 e' b0⟩
 ·obtain ⟨h1, h2⟩ := h.ne b a0 e h0
  refine ⟨h1, fun i hi Ai ci b' o' h3 => ?_⟩; rw [i0 _ _ h1] at h3; exact h2 i hi Ai ci b' o' h3
theorem RdMn.below (h : RdMn w r A n c R) (hb : From w w') : RdMn w' r A n c R := by
 refine ⟨h.rd.below hb, fun b a0 e h0 => ?_⟩
 obtain ⟨h1, h2⟩ := h.ne b a0 e h0
 have c0 := h.rd.lt e h0
 refine ⟨h1, fun i hi Ai ci b' o' h3 => ?_⟩
 rw [hb.cell (p := ⟨b, a0 + i, none⟩) c0] at h3
 exact h2 i hi Ai ci b' o' h3
theorem RdM.old (h : RdM w A n c R) (hb : From w w') (hr : w.heap.size <= r) : RdMn w' r A n c R := by
 refine ⟨h.below hb, fun b a0 e h0 => ?_⟩
 have c0 := h.lt e h0
 refine ⟨by omega, fun i hi Ai ci b' o' h3 e2 b0 => ?_⟩
 rw [hb.cell (p := ⟨b, a0 + i, none⟩) c0] at h3
 obtain ⟨b9, x0, l0, m0, e9, _, h6, h7⟩ := h.at hi
 rw [e] at e9
 simp only [qc, qd, and_true] at e9
 obtain ⟨rfl, rfl⟩ := e9
 rw [h6] at h3
 simp only [qc, qm] at h3
 obtain ⟨rfl, _, rfl⟩ := h3
 obtain ⟨b8, o8, e8, h8, _⟩ := h7.cells b0
 rw [e2] at e8
 simp only [qc, qd] at e8
 omega
theorem OwnM.apartT {base : Nat} (h : OwnM w base A n c R) {cs : Array Value} {t : TypeId} (hr : w.heap[r]? = some (.cells cs t (0, 0))) (h1 : t ≠ 3) (h2 : t ≠ 22) : RdMn w r A n c R := by
 refine ⟨h.rd, fun b a0 e h0 => ?_⟩
 obtain ⟨g, n', c', vs, R', rfl, hG, hn, hc, v0, rfl⟩ := h
 simp only [qc, qd, and_true] at e
 obtain ⟨rfl, rfl⟩ := e
 have f0 : ∀ {v : Value} {x s m : Nat} {xs : VQ} {e : TypeId}, w.ownsRow base e s v m xs -> v.ownBlock = some x -> ∃ d0, w.heap[x]? = some (.cells d0 e (0, 0)) := fun {v x s m xs e} ho hx => by
  rcases ho.2 with ⟨rfl, _⟩ | ⟨g, cap, d0, rfl, _, hgb, _⟩
  ·simp [Value.ownBlock] at hx
  ·have : g = x := by simpa [Value.ownBlock] using hx
   rw [<- this]; exact ⟨_, hgb⟩
 constructor
 ·intro e
  obtain ⟨d0, h9⟩ := f0 hG.grid.outer (x := g) rfl; rw [e, hr] at h9; simp at h9; exact h2 h9.2
 ·intro i hi Ai ci b' o' h3 e2 b0 e3
  have j0 : i < n' := by omega
  rw [Zq, hG.grid.slot j0] at h3; obtain ⟨m, hm⟩ := hG.grid.inner i j0; rw [Aq h3, e2] at hm; obtain ⟨d0, h9⟩ := f0 hm (x := b') rfl; rw [e3, hr] at h9; simp at h9; exact h1 h9.2
end
section
variable {P : Program} {w : WQ} {ops : Array Oper} {rest : List Oper} {o : Oper} {a : Act} {Q : Exit -> Act -> WQ -> Prop}
theorem Mb (hgd : o.guard = none) (s x : Operand) (t : TypeId)
  (ho : o.op = .call { callee := .builtin .append, args := #[s, x], argTypes := #[t, t] }) (i : TypeInfo) (ht : P.underlying t = some (.slice 22)) (hi : P.info? 22 = some i) (hz : i.zero = some (eQ)) (hsize : i.size = 1) (hby : i.bytes = 24)
  (g n r : Nat) (R : LQ) (hs : a.eval s = .slice (sQ g) n n) (hR : RdMn w r (sQ g) n n R)
  (B : OQ) (k d : Nat) (S : LQ) (hx : a.eval x = .slice B k d) (hS : RdMn w r B k d S) (hn : n + k <= 1000000) (hr : r < w.heap.size)
  (h : ∀ A' c' w', RdMn w' r A' (n + k) c' (R ++ S) -> From w w' -> wpList P ops Q rest (a.put o.dst (.slice A' (n + k) c')) w') :
  wpList P ops Q (o :: rest) a w := by
 refine wpList_plain hgd fun K hK => ?_
 rcases Xq k with h0 | h0
 ·subst h0
  have hl : S = [] := Lq hS.rd.len; subst hl; have q0 : (Builtin.append_ #[t, t] o.type #[.slice (sQ g) n n, .slice B 0 d]).run P w = .ok (.slice (sQ g) n n) w := by
   cases B <;> simp [Builtin.append_, run_underlying ht, sizeOf, typeInfo, hi, Builtin.lenOf, Builtin.firstCells, storeCells, loadCells, loadCellsFrom]
  unfold Oper.wp; simp [execOp, ho, resolve, invoke, builtin, hs, hx, q0, Result.andThen]; have h9 := h (sQ g) n w (by simpa using hR) (From.refl w); exact hK _ _ h9
 ·obtain ⟨b, a0, rfl, t0, _⟩ := hS.rd.cells h0
  have h2 := step_append_grows (P := P) (ops := ops) (o := o) (a := a) (w := w) (K := K) (Q := Q) (E := True) hgd s x t ho 22 i (eQ) 1 24 ht hi hz hsize hby rfl (by omega) (sQ g) n n (slcs w g 0 n) hs (fun h => by cases h) (by rw [Fe]; omega)
   (fun b' e j u hj => by
    simp only [qc] at e; subst e; have e0 : j < n := by have := (qbb.1 hj).1; rwa [Fe] at this
    obtain ⟨Ai, ci, h1, h2, _⟩ := hR.rd.slc e0; rw [h2] at hj; rw [<- hj, qcg]; exact h1)
   ⟨b, a0, none⟩ k d (slcs w b a0 k) hx (by rw [Fe]; omega)
   (fun j u hj => by
    have e0 : j < k := by have := (qbb.1 hj).1; rwa [Fe] at this
    obtain ⟨Ai, ci, h1, h2, _⟩ := hS.rd.slc e0; rw [h2] at hj; rw [<- hj, qcg]; exact h1)
   (fun u hu => by
    obtain ⟨j, hj, rfl⟩ := Iq.1 hu; rw [Fe] at hj; obtain ⟨Ai, ci, h1, h2, _⟩ := hS.rd.slc hj; rw [qh (by rw [Fe]; exact hj)] at h2; rw [Aq h2]; rfl)
   (by omega) (by unfold maxLen; omega) (by omega) fun v' w' h1 h2 => ?_
  ·rw [if_pos (by simp [Region.wanted, hgd])] at h2
   exact h2
  ·have hb : From w w' := (Below.refl w.heap.size w).grown h2 (qb _) (fun k hk => by cases hk)
   rcases Ce h1 with ⟨_, h4, _⟩ | ⟨g', c', rfl, h5⟩
   ·omega
   ·refine hK _ _ (h _ c' w' ?_ hb)
    obtain ⟨w0, c0, n0, o0⟩ := h5; have g0 : ∀ i, i < n + k -> ∃ Ai ci, w'.cell? ⟨g', i, none⟩ = some (.slice Ai ((R ++ S).getD i []).length ci) ∧ RdN w' Ai ((R ++ S).getD i []).length ci ((R ++ S).getD i []) ∧ ∀ b' o', Ai = some ⟨b', o', none⟩ -> 0 < ((R ++ S).getD i []).length -> b' ≠ r := fun i hi => by
     have hc := h1.cellAt i (by omega); rw [hc]
     by_cases hin : i < n
     ·obtain ⟨Ai, ci, h6, h7, h8⟩ := hR.rd.slc hin
      have e1 : (R ++ S).getD i [] = R.getD i [] := by rw [qa, Pq (by rw [hR.rd.len]; exact hin), qa]
      rw [e1, Pq (by rw [Fe]; exact hin)]; exact ⟨Ai, ci, h7, h8.below hb, fun b' o' e b0 => (hR.ne g 0 rfl (by omega)).2 i hin Ai ci b' o' h6 e b0⟩
     ·obtain ⟨Ai, ci, h6, h7, h8⟩ := hS.rd.slc (show i - n < k by omega)
      have e1 : (R ++ S).getD i [] = S.getD (i - n) [] := by rw [qa, Gq (by rw [hR.rd.len]; omega), hR.rd.len, qa]
      rw [e1, Gq (by rw [Fe]; omega), Fe]; exact ⟨Ai, ci, h7, h8.below hb, fun b' o' e b0 => (hS.ne b a0 rfl h0).2 (i - n) (by omega) Ai ci b' o' h6 e b0⟩
    refine ⟨⟨by rw [Hq, hR.rd.len, hS.rd.len], n0, o0, fun _ => ⟨g', 0, rfl, c0, fun i hi => ?_⟩⟩, fun b' r0 e _ => ?_⟩
    ·obtain ⟨Ai, ci, h6, h7, _⟩ := g0 i hi
     rw [Zq]; exact ⟨Ai, ci, h6, h7⟩
    ·simp only [qc, qd, and_true] at e
     obtain ⟨rfl, rfl⟩ := e; refine ⟨by omega, fun i hi Ai ci b' o' h6 => ?_⟩; obtain ⟨l0, m0, h7, _, h8⟩ := g0 i hi; rw [Zq, h7] at h6; simp only [qc, qm] at h6; obtain ⟨rfl, _, rfl⟩ := h6; exact h8 b' o'
end
def sumS (F : Fld) (m : Nat) (R : LQ) (P : NQ) (S : LQ) : LQ := (Bc F ((Bc F (Ff F R P S) m).1 ++ R) m).1
theorem Ry {F : Fld} (h : F.Ok) {m : Nat} {R S : LQ} {P : NQ} (hR : Rref F m R P) (hS : Mat F m S) : ∃ Q, Rref F m (sumS F m R P S) Q ∧ Mat F m ((Bc F (Ff F R P S) m).1 ++ R) := by
 have h1 := Bn h (Mk h hR hS)
 have hM : Mat F m ((Bc F (Ff F R P S) m).1 ++ R) := fun r hr => by
  rcases qar.1 hr with h2 | h2
  ·exact h1.1.mat r h2
  ·exact hR.mat r h2
 exact ⟨_, (Bn h hM).1, hM⟩
def IsRM (m k : Nat) (K : LQ) (v : Value) (w : WQ) : Prop := ∃ A c, v = .agg #[nQ m, .slice A k c] ∧ RdM w A k c K
theorem IsRM.lasting {m k : Nat} {K : LQ} : ∀ v w w', Below w.heap.size w w' -> IsRM m k K v w -> IsRM m k K v w' := fun _ _ _ hb ⟨A, c, h1, h2⟩ => ⟨A, c, h1, h2.below hb⟩
def Lw (B m L : Nat) (K : LQ) (v : Value) (w : WQ) : Prop := ∃ g A pc, v = .tuple #[.agg #[nQ m, .slice (sQ g) L L], .slice A L pc, zQ] ∧ OwnM w B (sQ g) L L K
theorem Lw.lasting {B m L : Nat} {K : LQ} : ∀ v w w', Below w.heap.size w w' -> Lw B m L K v w -> Lw B m L K v w' := fun _ _ _ hb ⟨g, A, pc, h1, h2⟩ => ⟨g, A, pc, h1, h2.below hb⟩
def So (m : Nat) (K : LQ) (w : WQ) (e : Ending) (w' : WQ) : Prop :=
 ∃ g, e = .returned (.tuple #[.agg #[nQ m, .slice (sQ g) K.length K.length], zQ]) ∧ OwnM w' w.heap.size (sQ g) K.length K.length K ∧ Below w.heap.size w w'
theorem nH (w : WQ) (F : FD) (hF : F.Ok) (A : OQ) (c : Nat) (hmod : RdN w A (modL F).length c (modL F)) (m n c' k d : Nat) (B D : OQ) (R S : LQ) (P Q : NQ) (hR : RdM w B n c' R) (hRr : Rref F.fld m R P) (hS : RdM w D k d S) (hSr : Rref F.fld m S Q) (hm0 : 0 < m) (hm9 : m <= 128) :
  cQ 120 #[Ax F A c, matV m B n c', matV m D k d] w (So m (sumS F.fld m R P S) w) := by
 obtain ⟨i1, hj, j4, k4, l4⟩ := info_parts Eg
 have l0 := hF.fldOk
 have t4 : n <= m := by have h1 := Cn hRr; have h2 := hRr.len; have h3 := hR.len; omega
 have k3 : k <= m := by have h1 := Cn hSr; have h2 := hSr.len; have h3 := hS.len; omega
 have g1 := sK fun (wx : WQ) (h9 : From w wx) => oB wx F hF A c (hmod.below h9) m n c' k d B D R S P Q (hR.below h9) hRr (hS.below h9) hSr hm0 (by omega) (by omega) (by omega)
 have f2 := sK fun (wx : WQ) (h9 : From w wx) (b : Nat) (hG : GFat wx b F) (A1 : OQ) (pc : Nat) (hP : RdN wx A1 P.length pc P) => gL wx b F hG m n c' B R P (hR.below h9) hRr A1 pc hP D k d S (hS.below h9) hSr.mat hm0 (by omega) (by omega)
 have h1 := Bn l0 (Mk l0 hRr hSr.mat)
 have r0 := sK fun (wx : WQ) (h9 : From w wx) (A1 : OQ) (c1 : Nat) (hr : RdM wx A1 k c1 (Ff F.fld R P S)) => Fm wx F hF A c (hmod.below h9) m k c1 A1 _ hr (Mk l0 hRr hSr.mat) hm0 (by omega) (by omega)
 obtain ⟨Q9, h2, o1⟩ := Ry l0 hRr hSr.mat
 have g4 : (Bc F.fld (Ff F.fld R P S) m).1.length = (Bc F.fld (Ff F.fld R P S) m).2.length := h1.1.len
 have o4 : (Bc F.fld (Ff F.fld R P S) m).2.length <= m := Cn h1.1
 have o2 := Bn l0 o1
 have i0 := sK fun (wx : WQ) (h9 : From w wx) (A1 : OQ) (c1 : Nat) (hr : RdM wx A1 ((Bc F.fld (Ff F.fld R P S) m).2.length + n) c1 ((Bc F.fld (Ff F.fld R P S) m).1 ++ R)) => Fm wx F hF A c (hmod.below h9) m _ c1 A1 _ hr o1 hm0 (by omega) (by omega)
 have n2 : (sumS F.fld m R P S).length = (Bc F.fld ((Bc F.fld (Ff F.fld R P S) m).1 ++ R) m).2.length := o2.1.len
 have b4 := sK hR
 unfold Td at g1
 unfold Yk at f2
 unfold Lu at r0 i0
 unfold So
 have m3 : sumS F.fld m R P S = (Bc F.fld ((Bc F.fld (Ff F.fld R P S) m).1 ++ R) m).1 := rfl
 rw [n2, m3]
 clear n2 m3 o2 o1 h2 h1 hRr hSr hS hR
 generalize Bc F.fld ((Bc F.fld (Ff F.fld R P S) m).1 ++ R) m = st2 at *
 generalize Bc F.fld (Ff F.fld R P S) m = st1 at *
 generalize Ff F.fld R P S = RS at *
 obtain ⟨mL, l3⟩ := xQ ((modL F).length)
 obtain ⟨M, hM⟩ := xQ (F.m + 1)
 have e1 : Ax F A c = .agg #[nQ F.p, nQ M, .slice A mL c] := by rw [hM, l3]; rfl
 rw [e1] at g1 r0 i0 ⊢
 unfold matV at *
 clear e1 hM l3 hmod
 generalize P.length = pl at *
 generalize Q.length = ql at *
 generalize hLL : st1.2.length = L at *
 generalize st2.2.length = L2 at *
 obtain ⟨K, hK⟩ := xQ st1.1
 obtain ⟨K2, m2⟩ := xQ st2.1
 rw [<- hK] at r0 i0 g4
 rw [<- m2] at i0 ⊢
 clear hK m2 hLL
 go_enter Tryz.func120, Tryz.ntmps120
 go_upto_region 1 with fail
 obtain ⟨W, hW, s4, s1, b0, b1, b2, b3⟩ := mk4 w #[nQ F.p, nQ M, .slice A mL c] 24 #[nQ m, .slice B n c'] 52 #[nQ m, .slice D k d] 52 #[zQ, eQ] 52
 rw [hW]
 clear hW
 have d4 := sK s1
 have HC : Hid (∀ wx, From W wx -> wx.cell? ⟨w.heap.size, 0, none⟩ = some (nQ F.p) ∧ wx.cell? ⟨w.heap.size, 1, none⟩ = some (nQ M) ∧ wx.cell? ⟨w.heap.size, 2, none⟩ = some (.slice A mL c) ∧ wx.cell? ⟨w.heap.size + 1, 0, none⟩ = some (nQ m) ∧ wx.cell? ⟨w.heap.size + 1, 1, none⟩ = some (.slice B n c') ∧ wx.cell? ⟨w.heap.size + 1 + 1, 0, none⟩ = some (nQ m) ∧ wx.cell? ⟨w.heap.size + 1 + 1, 1, none⟩ = some (.slice D k d)) := sK fun wx hx =>
  have h0 := b0.below hx; have h1 := b1.below hx; have h2 := b2.below hx
  ⟨h0.c0, h0.c1, h0.c2, h1.c0, h1.c1, h2.c0, h2.c1⟩
 have s3 := sK b3
 have HW : Hid (∀ wx, From W wx -> From w wx) := sK fun wx hx => s1.trans (qf hx (by omega))
 clear b0 b1 b2 b3 s1
 obtain ⟨p0, p1, p2, p3, p4, p5, p6⟩ := HC W (From.refl W)
 go_upto_region 2 with (go_at_call 172; refine (g1 W d4.out).mono ?_; rintro e w2 ⟨b, A1, pc, b', A2, m4, rfl, hG, v2, e3⟩)
 obtain ⟨W3, z2, q4, z0, v0, v1⟩ := mk2 w2 #[pQ b, nQ m, .slice B n c', .slice A1 pl pc] 158 #[pQ b', nQ m, .slice D k d, .slice A2 ql m4] 158
 rw [z2]
 clear z2
 have e2 := sK (Aa z0 e3)
 have w3 : Hid (GFat W3 b F) := sK (hG.below z0)
 have z3 : Hid (RdN W3 A1 pl pc P) := sK (v2.below z0)
 have HV : Hid (∀ wx, From W3 wx -> wx.cell? ⟨w2.heap.size, 0, none⟩ = some (pQ b) ∧ wx.cell? ⟨w2.heap.size, 1, none⟩ = some (nQ m) ∧ wx.cell? ⟨w2.heap.size, 2, none⟩ = some (.slice B n c') ∧ wx.cell? ⟨w2.heap.size, 3, none⟩ = some (.slice A1 pl pc)) := sK fun wx hx =>
  have h0 := v0.below hx
  ⟨h0.c0, h0.c1, h0.c2, h0.c3⟩
 have e0 : Hid (∀ wx, From W3 wx -> From W wx) := sK fun wx h9 => Aa h9 e2.out
 clear v0 v1 z0 e3 hG v2 p0 p1 p2 p3 p4 p5 p6
 go_upto_region 4 with fail
 have f4 : From W3 W3 := From.refl W3
 refine wpL 10 55 [(7, 5, 27), (8, 5, 27)] [.v (.agg #[nQ F.p, nQ M, .slice A mL c]), .v (.agg #[pQ b, nQ m, .slice B n c', .slice A1 pl pc]), .v (.agg #[nQ m, .slice D k d]), .r (IsRM m k RS) IsRM.lasting, .r (Lw W3.heap.size m L K) Lw.lasting, .r (Lw W3.heap.size m L K) Lw.lasting, .r (Lx W3.heap.size m L K) Lx.lasting, .r (IsT) IsT.lasting, .v (zQ), .r (Lr W3.heap.size 52 #[zQ, eQ]) Lr.lasting] W3 (by kernel_rfl) (by kernel_rfl) (by kernel_rfl) (by kernel_rfl) rfl (From.drew f4) (fun x o3 => ?_) (fun _ _ d9 _ _ h => by cases d9 <;> exact h) ?_
 ·simp only [qx, Kq, or_false] at o3
  rcases o3 with rfl | rfl
  ·intro a9 o9 v9 wx ho hx hv he
   obtain rfl := Aq ho; obtain ⟨g9, A9, c9, rfl, h9⟩ := (hv : (Lw W3.heap.size m L K) v9 wx)
   exact ⟨.slice A9 L c9, Or.inl ⟨rfl, fun w9 => by simp only [execOp, he]; rfl⟩, trivial⟩
  ·intro a9 o9 v9 wx ho hx hv he
   obtain rfl := Aq ho; obtain ⟨g9, A9, c9, rfl, h9⟩ := (hv : (Lw W3.heap.size m L K) v9 wx)
   exact ⟨zQ, Or.inl ⟨rfl, fun w9 => by simp only [execOp, he]; rfl⟩, rfl⟩
 simp only [Tk]
 iterate 3 (refine .z (fun wx hx _ hK => by first | (obtain ⟨p0, p1, p2, p3, p4, p5, p6⟩ := HC wx (e0 wx hx); go_simp; exact Kz hK) | (obtain ⟨p0, p1, p2, p3⟩ := HV wx hx; go_simp; exact Kz hK)) ?_; simp only [Pt])
 refine .r (fun wx hx hd KK hK => ?_) (fun d5 => ?_)
 ·clear hd
  go_simp; refine (f2 wx (HW wx (e0 wx hx)) b (w3.below hx) A1 pc (z3.below hx)).mono ?_; rintro e w' ⟨A', cc, rfl, ho, u1⟩; exact hK.out _ _ ⟨A', cc, rfl, ho⟩ u1
 simp only [Pt]
 refine .r (fun wx hx hd KK hK => ?_) (fun e5 => ?_)
 ·obtain ⟨z1, i2, rfl, l1⟩ := hd _ (.head _) (by kernel_rfl)
  clear hd; go_simp; refine (r0 wx (HW wx (e0 wx hx)) z1 i2 l1).mono ?_; rintro e w' ⟨g', A', cc, rfl, ho, _, u1⟩; exact hK.out _ _ ⟨g', A', cc, rfl, ho.mono hx.size⟩ u1
 simp only [Pt]
 refine .r (fun wx hx hd KK hK => ?_) (fun c5 => ?_)
 ·obtain ⟨k2, a2, j2, rfl, m1⟩ := hd _ (.head _) (by kernel_rfl)
  clear hd; go_simp; exact hK.out _ _ ⟨k2, a2, j2, rfl, m1⟩ (bR)
 simp only [Pt]
 refine .r (fun wx hx hd KK hK => ?_) (fun f5 => ?_)
 ·obtain ⟨w0, a1, j1, rfl, j0⟩ := hd _ (.head _) (by kernel_rfl)
  clear hd; go_simp; exact hK.out _ _ ⟨w0, rfl, j0⟩ (bR)
 simp only [Pt]
 refine .r (fun wx hx hd KK hK => ?_) (fun g5 => ?_)
 ·obtain ⟨w0, a1, j1, rfl, j0⟩ := hd _ (.tail _ (.head _)) (by kernel_rfl)
  clear hd; go_simp; exact hK.out _ _ trivial (bR)
 simp only [Pt]
 refine .v (fun wx hx hd KK hK => ?_) ?_
 ·obtain ⟨w0, a1, j1, rfl, j0⟩ := hd _ (.tail _ (.tail _ (.head _))) (by kernel_rfl)
  clear hd; go_simp; exact Kz hK
 simp only [Pt]
 refine .r (fun wx hx hd KK hK => ?_) (fun b5 => ?_)
 ·clear hd
  go_simp; exact hK.out _ _ ⟨_, rfl, hx.size, (MapKept.heap_alloc _ _).1⟩ (Ac _ _)
 simp only [Pt]
 refine .nil fun w4 n3 hd => ?_
 obtain ⟨z1, i2, rfl, l1⟩ := hd _ (.tail _ (.tail _ (.tail _ (.tail _ (.tail _ (.head _))))))
 obtain ⟨k2, a2, j2, rfl, m1⟩ := hd _ (.tail _ (.tail _ (.tail _ (.tail _ (.head _)))))
 obtain ⟨w0, a1, j1, rfl, j0⟩ := hd _ (.tail _ (.tail _ (.tail _ (.head _))))
 obtain ⟨f0, rfl, l2⟩ := hd _ (.tail _ (.tail _ (.head _)))
 obtain ⟨⟩ := hd _ (.tail _ (.head _))
 obtain ⟨a0, rfl, y4, k1⟩ := hd _ (.head _)
 clear hd
 have hX : Blk w4 a0 #[zQ, eQ] := ⟨52, k1⟩
 have x0 : w4.cell? ⟨a0, 0, none⟩ = some (zQ) := hX.c0
 have x1 : w4.cell? ⟨a0, 1, none⟩ = some (eQ) := hX.c1
 have y0 := hX.free 0
 have y1 := hX.free 1
 have HX := sK hX
 have q3 := sK k1
 have r3 := sK l2
 have g2 := sK n3
 clear hX k1 l2 j0 m1 l1 n3
 go_upto_region 5 with fail
 obtain ⟨w5, m0⟩ : ∃ x, x = (w4.setCell ⟨a0, 0, none⟩ (nQ m)).setCell ⟨a0, 1, none⟩ (.slice (sQ f0) L L) := ⟨_, rfl⟩
 have j3 : w4.grownBy w5 (some a0) := by rw [m0]; exact (Ad _ _ _ _).trans (Ad _ _ _ _)
 have r2 : RdMn w5 a0 (sQ f0) L L K := by rw [m0]; exact ((r3.apartT q3 (by decide) (by decide)).set _ _).set _ _
 have d3 : Blk w5 a0 #[nQ m, .slice (sQ f0) L L] := by rw [m0]; exact (HX.set 0 _).set 1 _
 have f3 : From W3 w5 := qac g2 j3 g2.size (fun k9 k3 => by simp only [qc] at k3; omega)
 rw [<- m0]
 clear m0 j3 x0 x1 y0 y1
 have x3 := sK r2
 have t0 := sK d3
 have f1 := sK f3
 clear r2 d3 f3
 obtain ⟨p0, p1, p2, p3, p4, p5, p6⟩ := HC w5 (e0 w5 f1.out)
 have x0 : w5.cell? ⟨a0, 0, none⟩ = some (nQ m) := t0.c0
 have x1 : w5.cell? ⟨a0, 1, none⟩ = some (.slice (sQ f0) L L) := t0.c1
 have i4 := t0.lt
 have x4 : W.heap.size <= W3.heap.size := e2.size
 have c4 : Hid (RdMn w5 a0 B n c' R) := sK (b4.old (HW w5 (e0 w5 f1.out)) (by omega))
 go_upto_region 8 with (at_builtin; refine Mb rfl (.tmp 41) (.tmp 43) 25 rfl i1 Tryz.underlying25 hj j4 k4 l4 f0 L a0 _ rfl x3 B n c' _ rfl c4 (by omega) i4 ?_; intro A6 c6 w6 x2 w1; have B6 := t0.below w1; have n4 : w6.cell? ⟨a0, 1, none⟩ = some (.slice (sQ f0) L L) := B6.c1; have e4 := B6.free 1)
 obtain ⟨w7, n0⟩ : ∃ x, x = w6.setCell ⟨a0, 1, none⟩ (.slice A6 (L + n) c6) := ⟨_, rfl⟩
 have t1 : Blk w7 a0 #[nQ m, .slice A6 (L + n) c6] := by rw [n0]; simpa using B6.set 1 (.slice A6 (L + n) c6)
 have y2 : RdM w7 A6 (L + n) c6 (K ++ R) := by rw [n0]; exact (x2.set 1 _).rd
 have g3 : From W3 w7 := by rw [n0]; exact (Aa w1 f1.out).setCell (p := ⟨a0, 1, none⟩) (by simp only; omega) _
 rw [<- n0]
 have a4 := sK y2
 have o0 := sK g3
 clear n0 x2 w1 B6 n4 e4 p0 p1 p2 p3 p4 p5 p6 x0 x1 y2 g3
 obtain ⟨p0, p1, p2, p3, p4, p5, p6⟩ := HC w7 (e0 w7 o0.out)
 have x0 : w7.cell? ⟨a0, 0, none⟩ = some (nQ m) := t1.c0
 have x1 : w7.cell? ⟨a0, 1, none⟩ = some (.slice A6 (L + n) c6) := t1.c1
 clear t1
 go_upto_region 9 with (go_at_call 117; refine (i0 w7 (HW w7 (e0 w7 o0.out)) A6 c6 a4.out).mono ?_; rintro e w8 ⟨g8, A8, c8, rfl, s2, h4, i3⟩)
 have d2 := sK (Aa i3 o0.out)
 obtain ⟨W9, a3, r4, r1, u0⟩ := mk1 w8 #[nQ m, .slice (sQ g8) L2 L2] 52
 rw [a3]
 clear a3
 have t3 := sK (Aa r1 d2.out)
 have u2 := s2.below r1
 have n1 := e0 W9 t3.out
 have g0 := s3.below n1
 have z4 : W9.cell? ⟨w8.heap.size, 0, none⟩ = some (nQ m) := u0.c0
 have a5 : W9.cell? ⟨w8.heap.size, 1, none⟩ = some (.slice (sQ g8) L2 L2) := u0.c1
 have d0 := g0.free 0
 have d1 := g0.free 1
 have c0 : W9.cell? ⟨w.heap.size + 1 + 1 + 1, 0, none⟩ = some (zQ) := g0.c0
 have c1 : W9.cell? ⟨w.heap.size + 1 + 1 + 1, 1, none⟩ = some (eQ) := g0.c1
 have v4 : W.heap.size <= w7.heap.size := (e0 w7 o0.out).size
 have u4 : ¬ w8.heap.size = w.heap.size + 1 + 1 + 1 := by have := (e0 w8 d2.out).size; omega
 have y3 := sK u2
 have u3 := sK g0
 have v3 := sK n1
 clear u2 g0 n1 u0 r1 s2 h4 i3 p0 p1 p2 p3 p4 p5 p6 x0 x1
 go_wp2
 have hE := (u3.set 0 (nQ m)).set 1 (.slice (sQ g8) L2 L2)
 obtain ⟨q0, q1⟩ := hE.t2
 refine bodyPost_ret (v := .tuple #[.agg #[nQ m, .slice (sQ g8) L2 L2], zQ]) (by simp [results, Tryz.results120, go_sem, q0, q1]) rfl ⟨g8, rfl, ?_, ?_⟩
 ·exact (((y3.set (r := w.heap.size + 1 + 1 + 1) (by omega) 0 _).set (r := w.heap.size + 1 + 1 + 1) (by omega) 1 _)).mono (by omega)
 ·exact ((HW W9 v3.out).setCell (p := ⟨w.heap.size + 1 + 1 + 1, 0, none⟩) (by simp only; omega) _).setCell (p := ⟨w.heap.size + 1 + 1 + 1, 1, none⟩) (by simp only; omega) _
theorem oA (w : WQ) (F : FD) (A B : OQ) (c d : Nat) (hA : RdN w A (modL F).length c (modL F)) (hB : RdN w B (modL F).length d (modL F)) :
  cQ 171 #[Ax F A c, Ax F B d] w (Ah (.bool true) w) := by
 have e1 : ∀ A c, Ax F A c = .agg #[nQ F.p, .int .i64 ((F.m + 1 : Nat) : Int), .slice A (modL F).length c] := fun _ _ => rfl
 simp only [e1]
 have t0 := hA.le63
 have o0 := hA.cap
 have q0 := hB.cap
 have HA := sK hA
 have HB := sK hB
 clear e1 hA hB
 generalize (modL F).length = mL at *
 generalize F.m + 1 = M at *
 go_enter Tryz.func171, Tryz.ntmps171
 go_upto_region 1 with fail
 obtain ⟨W, hW⟩ := xQ ((w.alloc (.cells #[nQ F.p, nQ M, .slice A mL c] 24)).alloc (.cells #[nQ F.p, nQ M, .slice B mL d] 24))
 have l0 : W.heap.size = w.heap.size + 2 := by rw [hW]; simp
 have d0 : Below w.heap.size w W := by rw [hW]; exact ((bR).alloc (qb _) _).alloc (by simp) _
 have h1 : Blk W w.heap.size #[nQ F.p, nQ M, .slice A mL c] := by rw [hW]; exact (Blk.new _ _ _).alloc _
 have h2 : Blk W (w.heap.size + 1) #[nQ F.p, nQ M, .slice B mL d] := by
  rw [hW]; have h9 := Blk.new (w.alloc (.cells #[nQ F.p, nQ M, .slice A mL c] 24)) #[nQ F.p, nQ M, .slice B mL d] 24
  rwa [qi] at h9
 rw [<- hW]
 clear hW
 have a0 : W.cell? ⟨w.heap.size, 0, none⟩ = some (nQ F.p) := h1.c0
 have a1 : W.cell? ⟨w.heap.size, 1, none⟩ = some (nQ M) := h1.c1
 have a2 : W.cell? ⟨w.heap.size, 2, none⟩ = some (.slice A mL c) := h1.c2
 have b0 : W.cell? ⟨w.heap.size + 1, 0, none⟩ = some (nQ F.p) := h2.c0
 have b1 : W.cell? ⟨w.heap.size + 1, 1, none⟩ = some (nQ M) := h2.c1
 have b2 : W.cell? ⟨w.heap.size + 1, 2, none⟩ = some (.slice B mL d) := h2.c2
 have g0 := sK (HA.below d0)
 have h0 := sK (HB.below d0)
 have i0 := sK d0
 clear h1 h2 d0
 go_wp2
 go_loopw [31] (fun f0 wr => ∃ i, i <= mL ∧ f0 = nQ i ∧ W = wr) (fun f0 _ => mL - (intOf f0).toNat)
 case atStart => exact ⟨0, qe _, rfl, rfl⟩
 case round =>
  obtain ⟨i, hi, rfl, e0⟩ := hrel; rw [e0] at a0 a1 a2 b0 b1 b2 g0 h0 i0; have j0 := sK e0; clear e0
  by_cases hin : i < mL
  ·have r0 : (i : Int) < (mL : Int) := by omega
   obtain ⟨ab, ao, hA, _, m0⟩ := g0.at hin; obtain ⟨bb, bo, hB, _, n0⟩ := h0.at hin; subst hA; subst hB; generalize (modL F).getD i 0 = y at *; go_wp2; go_roundw
   case rel => exact ⟨i + 1, by omega, by go_num, j0.out⟩
   case measure => simp [intOf]; omega
  ·obtain rfl : i = mL := by omega
   go_wp2; go_ret; exact ⟨rfl, i0.out⟩
theorem oJ (w : WQ) (F : FD) (hF : F.Ok) (A A2 : OQ) (c c2 : Nat) (hmod : RdN w A (modL F).length c (modL F)) (hmod2 : RdN w A2 (modL F).length c2 (modL F)) (N k cg k2 cg2 : Nat) (B B2 : OQ) (R R2 : LQ) (P P2 : NQ) (hR : RdM w B k cg R) (hRr : Rref F.fld N R P) (hR2 : RdM w B2 k2 cg2 R2) (hRr2 : Rref F.fld N R2 P2) (hN0 : 0 < N) (hN9 : N <= 64) :
  cQ 119 #[Dj F A c N B k cg, Dj F A2 c2 N B2 k2 cg2] w (Ah (zQ) w) := by
 have w0 : k <= N := by have h1 := Cn hRr; have h2 := hRr.len; have h3 := hR.len; omega
 have g3 : k2 <= N := by have h1 := Cn hRr2; have h2 := hRr2.len; have h3 := hR2.len; omega
 have m1 := fun (wx : WQ) (h9 : From w wx) => Fj wx F hF A c (hmod.below h9) N k cg B R P (hR.below h9) hRr hN0 hN9 (by omega)
 have n1 := fun (wx : WQ) (h9 : From w wx) => Fj wx F hF A2 c2 (hmod2.below h9) N k2 cg2 B2 R2 P2 (hR2.below h9) hRr2 hN0 hN9 (by omega)
 have s1 := fun (wx : WQ) (h9 : From w wx) => oA wx F A A2 c c2 (hmod.below h9) (hmod2.below h9)
 have e1 : ∀ A c, Ax F A c = .agg #[nQ F.p, .int .i64 ((F.m + 1 : Nat) : Int), .slice A (modL F).length c] := fun _ _ => rfl
 have e2 : ∀ A c N B k cg, Dj F A c N B k cg = .agg #[nQ F.p, .int .i64 ((F.m + 1 : Nat) : Int), .slice A (modL F).length c, nQ N, .slice B k cg] := fun _ _ _ _ _ _ => rfl
 simp only [e2] at m1 n1 ⊢
 simp only [e1] at s1
 have o2 := sK m1
 have r2 := sK n1
 have x2 := sK s1
 clear m1 n1 s1 e1 e2 hmod hmod2 hR hR2 hRr hRr2
 generalize (modL F).length = mL at *
 generalize F.m + 1 = M at *
 go_enter Tryz.func119, Tryz.ntmps119
 go_upto_region 1 with fail
 obtain ⟨W, hW, a3, f0, b0, b1⟩ := mk2 w #[nQ F.p, nQ M, .slice A mL c, nQ N, .slice B k cg] 27 #[nQ F.p, nQ M, .slice A2 mL c2, nQ N, .slice B2 k2 cg2] 27
 rw [hW]
 clear hW
 have HC : Hid (∀ wx, From W wx -> (wx.cell? ⟨w.heap.size, 0, none⟩ = some (nQ F.p) ∧ wx.cell? ⟨w.heap.size, 1, none⟩ = some (nQ M) ∧ wx.cell? ⟨w.heap.size, 2, none⟩ = some (.slice A mL c) ∧ wx.cell? ⟨w.heap.size, 3, none⟩ = some (nQ N) ∧ wx.cell? ⟨w.heap.size, 4, none⟩ = some (.slice B k cg)) ∧ (wx.cell? ⟨w.heap.size + 1, 0, none⟩ = some (nQ F.p) ∧ wx.cell? ⟨w.heap.size + 1, 1, none⟩ = some (nQ M) ∧ wx.cell? ⟨w.heap.size + 1, 2, none⟩ = some (.slice A2 mL c2) ∧ wx.cell? ⟨w.heap.size + 1, 3, none⟩ = some (nQ N) ∧ wx.cell? ⟨w.heap.size + 1, 4, none⟩ = some (.slice B2 k2 cg2))) := sK fun wx hx =>
  have h0 := b0.below hx; have h1 := b1.below hx
  ⟨⟨h0.c0, h0.c1, h0.c2, h0.c3, h0.c4⟩, h1.c0, h1.c1, h1.c2, h1.c3, h1.c4⟩
 have f1 := sK f0
 have HW : Hid (∀ wx, From W wx -> From w wx) := sK fun wx hx => f0.trans (qf hx (by omega))
 clear b0 b1 f0
 obtain ⟨⟨p0, p1, p2, p3, p4⟩, q0, q1, q2, q3, q4⟩ := HC W (From.refl W)
 go_upto_region 3 with (go_at_call 23; refine (o2 W f1.out).mono ?_; rintro e w2 ⟨rfl, m0⟩)
 have a1 := sK m0
 clear m0 p0 p1 p2 p3 p4 q0 q1 q2 q3 q4
 obtain ⟨⟨p0, p1, p2, p3, p4⟩, q0, q1, q2, q3, q4⟩ := HC w2 a1.out
 go_upto_region 4 with (go_at_call 23; refine (r2 w2 (HW w2 a1.out)).mono ?_; rintro e w3 ⟨rfl, g2⟩)
 have j0 := sK (Aa g2 a1.out)
 clear g2 p0 p1 p2 p3 p4 q0 q1 q2 q3 q4
 obtain ⟨⟨p0, p1, p2, p3, p4⟩, q0, q1, q2, q3, q4⟩ := HC w3 j0.out
 go_wp2_with (go_at_call 171; refine (x2 w3 (HW w3 j0.out)).mono ?_; rintro e w4 ⟨rfl, k1⟩; have j3 : w4.cell? ⟨w.heap.size, 3, none⟩ = some (nQ N) := (HC w4 (Aa k1 j0.out)).1.2.2.2.1; have k3 : w4.cell? ⟨w.heap.size + 1, 3, none⟩ = some (nQ N) := (HC w4 (Aa k1 j0.out)).2.2.2.2.1)
 go_ret
 exact ⟨rfl, HW _ (Aa k1 j0.out)⟩
theorem nZ (w : WQ) (F : FD) (hF : F.Ok) (A A2 : OQ) (c c2 : Nat) (hmod : RdN w A (modL F).length c (modL F)) (hmod2 : RdN w A2 (modL F).length c2 (modL F)) (N k cg k2 cg2 : Nat) (B B2 : OQ) (R R2 : LQ) (P P2 : NQ) (hR : RdM w B k cg R) (hRr : Rref F.fld N R P) (hR2 : RdM w B2 k2 cg2 R2) (hRr2 : Rref F.fld N R2 P2) (hN0 : 0 < N) (hN9 : N <= 64) :
  cQ 62 #[Dj F A c N B k cg, Dj F A2 c2 N B2 k2 cg2] w (Ef F N (sumS F.fld N R P R2) w) := by
 have t1 := fun (wx : WQ) (h9 : From w wx) => oJ wx F hF A A2 c c2 (hmod.below h9) (hmod2.below h9) N k cg k2 cg2 B B2 R R2 P P2 (hR.below h9) hRr (hR2.below h9) hRr2 hN0 hN9
 have t0 := fun (wx : WQ) => Nz wx F A c N k cg B
 have v0 := fun (wx : WQ) => Nz wx F A2 c2 N k2 cg2 B2
 have n0 := fun (wx : WQ) (h9 : From w wx) => nH wx F hF A c (hmod.below h9) N k cg k2 cg2 B B2 R R2 P P2 (hR.below h9) hRr (hR2.below h9) hRr2 hN0 (by omega)
 have g0 := fun (wx : WQ) (h9 : From w wx) (G : OQ) (l : Nat) => Xu wx F hF A c (hmod.below h9) N l l G
 unfold So at n0
 unfold Oi at g0
 unfold Ef
 have e1 : Ax F A c = .agg #[nQ F.p, .int .i64 ((F.m + 1 : Nat) : Int), .slice A (modL F).length c] := rfl
 have e2 : ∀ A c N B k cg, Dj F A c N B k cg = .agg #[nQ F.p, .int .i64 ((F.m + 1 : Nat) : Int), .slice A (modL F).length c, nQ N, .slice B k cg] := fun _ _ _ _ _ _ => rfl
 simp only [e2] at t1 t0 v0 g0 ⊢
 rw [e1] at n0 g0
 unfold matV at t0 v0 n0 g0
 have z2 := sK t1
 have s2 := sK t0
 have t2 := sK v0
 have y2 := sK n0
 have v2 := sK g0
 clear t1 t0 v0 n0 g0 e1 e2 hmod hmod2 hR hR2 hRr hRr2
 generalize sumS F.fld N R P R2 = K at *
 generalize K.length = l at *
 generalize (modL F).length = mL at *
 generalize F.m + 1 = M at *
 go_enter Tryz.func62, Tryz.ntmps62
 go_upto_region 1 with fail
 obtain ⟨W, hW, a3, f0, b0, b1, b2⟩ := mk3 w #[nQ F.p, nQ M, .slice A mL c, nQ N, .slice B k cg] 27 #[nQ F.p, nQ M, .slice A2 mL c2, nQ N, .slice B2 k2 cg2] 27 #[zQ, zQ, eQ, zQ, eQ] 27
 rw [hW]
 clear hW
 have HC : Hid (∀ wx, From W wx -> (wx.cell? ⟨w.heap.size, 0, none⟩ = some (nQ F.p) ∧ wx.cell? ⟨w.heap.size, 1, none⟩ = some (nQ M) ∧ wx.cell? ⟨w.heap.size, 2, none⟩ = some (.slice A mL c) ∧ wx.cell? ⟨w.heap.size, 3, none⟩ = some (nQ N) ∧ wx.cell? ⟨w.heap.size, 4, none⟩ = some (.slice B k cg)) ∧ (wx.cell? ⟨w.heap.size + 1, 0, none⟩ = some (nQ F.p) ∧ wx.cell? ⟨w.heap.size + 1, 1, none⟩ = some (nQ M) ∧ wx.cell? ⟨w.heap.size + 1, 2, none⟩ = some (.slice A2 mL c2) ∧ wx.cell? ⟨w.heap.size + 1, 3, none⟩ = some (nQ N) ∧ wx.cell? ⟨w.heap.size + 1, 4, none⟩ = some (.slice B2 k2 cg2))) := sK fun wx hx =>
  have h0 := b0.below hx; have h1 := b1.below hx
  ⟨⟨h0.c0, h0.c1, h0.c2, h0.c3, h0.c4⟩, h1.c0, h1.c1, h1.c2, h1.c3, h1.c4⟩
 have v1 := sK b2
 have f1 := sK f0
 have HW : Hid (∀ wx, From W wx -> From w wx) := sK fun wx hx => f0.trans (qf hx (by omega))
 clear b0 b1 b2 f0
 obtain ⟨⟨p0, p1, p2, p3, p4⟩, q0, q1, q2, q3, q4⟩ := HC W (From.refl W)
 go_upto_region 4 with (go_at_call 119; refine (z2 W f1.out).mono ?_; rintro e w2 ⟨rfl, m0⟩)
 have n2 := sK m0
 clear m0 p0 p1 p2 p3 p4 q0 q1 q2 q3 q4
 refine wpL 11 33 [(9, 7, 16)] [.v (pQ w.heap.size), .v (.agg #[nQ F.p, nQ M, .slice A mL c]), .v (.agg #[nQ F.p, nQ M, .slice A mL c, nQ N, .slice B k cg]), .v (.agg #[nQ N, .slice B k cg]), .v (.agg #[nQ F.p, nQ M, .slice A2 mL c2, nQ N, .slice B2 k2 cg2]), .v (.agg #[nQ N, .slice B2 k2 cg2]), .r (Hp W.heap.size N l K) Hp.lasting, .r (Hp W.heap.size N l K) Hp.lasting, .r (Lx W.heap.size N l K) Lx.lasting, .v (zQ), .r (Lr W.heap.size 52 #[zQ, eQ]) Lr.lasting] W (by kernel_rfl) (by kernel_rfl) (by kernel_rfl) (by kernel_rfl) rfl (From.drew n2.out) (fun x l2 => ?_) (fun _ _ d9 _ _ h => by cases d9 <;> exact h) ?_
 ·simp only [qx, Kq, or_false] at l2
  rcases l2 with rfl
  ·intro a9 o9 v9 wx ho hx hv he
   obtain rfl := Aq ho; obtain ⟨g9, rfl, h9⟩ := (hv : (Hp W.heap.size N l K) v9 wx)
   exact ⟨zQ, Or.inl ⟨rfl, fun w9 => by simp only [execOp, he]; rfl⟩, rfl⟩
 simp only [Tk]
 iterate 6 (refine .z (fun wx hx _ hK => by first | (go_simp; exact Kz hK) | (obtain ⟨⟨p0, p1, p2, p3, p4⟩, q0, q1, q2, q3, q4⟩ := HC wx hx; go_simp; exact Kz hK) | (go_simp; refine (s2 wx).mono ?_; rintro e w' ⟨rfl, l0⟩; exact hK.out _ _ rfl l0) | (go_simp; refine (t2 wx).mono ?_; rintro e w' ⟨rfl, l0⟩; exact hK.out _ _ rfl l0)) ?_; simp only [Pt])
 refine .r (fun wx hx hd KK hK => ?_) (fun m3 => ?_)
 ·clear hd
  go_simp; refine (y2 wx (HW wx hx)).mono ?_; rintro e w' ⟨g', rfl, e3, l0⟩; exact hK.out _ _ ⟨g', rfl, e3.mono hx.size⟩ l0
 simp only [Pt]
 refine .r (fun wx hx hd KK hK => ?_) (fun l3 => ?_)
 ·obtain ⟨z1, rfl, i1⟩ := hd _ (.head _) (by kernel_rfl)
  clear hd; go_simp; exact hK.out _ _ ⟨z1, rfl, i1⟩ (bR)
 simp only [Pt]
 refine .r (fun wx hx hd KK hK => ?_) (fun n3 => ?_)
 ·obtain ⟨g1, rfl, o0⟩ := hd _ (.head _) (by kernel_rfl)
  clear hd; go_simp; exact hK.out _ _ ⟨g1, rfl, o0⟩ (bR)
 simp only [Pt]
 refine .v (fun wx hx hd KK hK => ?_) ?_
 ·obtain ⟨g1, rfl, o0⟩ := hd _ (.tail _ (.head _)) (by kernel_rfl)
  clear hd; go_simp; exact Kz hK
 simp only [Pt]
 refine .r (fun wx hx hd KK hK => ?_) (fun v7 => ?_)
 ·clear hd
  go_simp; exact hK.out _ _ ⟨_, rfl, hx.size, (MapKept.heap_alloc _ _).1⟩ (Ac _ _)
 simp only [Pt]
 refine .nil fun w4 j2 hd => ?_
 obtain ⟨z1, rfl, i1⟩ := hd _ (.tail _ (.tail _ (.tail _ (.head _))))
 obtain ⟨g1, rfl, o0⟩ := hd _ (.tail _ (.tail _ (.head _)))
 obtain ⟨e0, rfl, a2⟩ := hd _ (.tail _ (.head _))
 obtain ⟨x7, rfl, l7, h7⟩ := hd _ (.head _)
 clear hd
 have hX : Blk w4 x7 #[zQ, eQ] := ⟨52, h7⟩
 have x0 : w4.cell? ⟨x7, 0, none⟩ = some (zQ) := hX.c0
 have x1 : w4.cell? ⟨x7, 1, none⟩ = some (eQ) := hX.c1
 have y0 := hX.free 0
 have y1 := hX.free 1
 have HX := sK hX
 have H5 := sK h7
 have m2 := sK a2
 have w1 := sK j2
 clear hX h7 a2 i1 o0 j2
 go_upto_region 5 with fail
 obtain ⟨w5, z0⟩ : ∃ x, x = (w4.setCell ⟨x7, 0, none⟩ (nQ N)).setCell ⟨x7, 1, none⟩ (.slice (sQ e0) l l) := ⟨_, rfl⟩
 have o1 : w4.grownBy w5 (some x7) := by rw [z0]; exact (Ad _ _ _ _).trans (Ad _ _ _ _)
 have f2 : OwnM w5 W.heap.size (sQ e0) l l K := m2.keptT o1 H5 (by decide) (by decide)
 have j1 : Blk w5 x7 #[nQ N, .slice (sQ e0) l l] := by rw [z0]; exact (HX.set 0 _).set 1 _
 have l1 : From W w5 := qac w1 o1 w1.size (fun k9 w0 => by simp only [qc] at w0; omega)
 rw [<- z0]
 clear z0 o1 x0 x1 y0 y1
 obtain ⟨⟨p0, p1, p2, p3, p4⟩, q0, q1, q2, q3, q4⟩ := HC w5 l1
 have x0 : w5.cell? ⟨x7, 0, none⟩ = some (nQ N) := j1.c0
 have x1 : w5.cell? ⟨x7, 1, none⟩ = some (.slice (sQ e0) l l) := j1.c1
 have u2 := sK f2
 have i0 := sK l1
 clear f2 j1 l1
 go_wp2_with (go_at_call 28; refine (v2 w5 (HW w5 i0.out) _ l).mono ?_; rintro e w6 ⟨A6, c6, rfl, f3, i2, r0⟩; have a0 := v1.below (Aa r0 i0.out); have d0 := a0.free 0; have d1 := a0.free 1; have d2 := a0.free 2; have d3 := a0.free 3; have d4 := a0.free 4; have c0 : w6.cell? ⟨w.heap.size + 1 + 1, 0, none⟩ = some (zQ) := a0.c0; have c1 : w6.cell? ⟨w.heap.size + 1 + 1, 1, none⟩ = some (zQ) := a0.c1; have c2 : w6.cell? ⟨w.heap.size + 1 + 1, 2, none⟩ = some (eQ) := a0.c2; have c3 : w6.cell? ⟨w.heap.size + 1 + 1, 3, none⟩ = some (zQ) := a0.c3; have c4 : w6.cell? ⟨w.heap.size + 1 + 1, 4, none⟩ = some (eQ) := a0.c4)
 have a0 := v1.below (Aa r0 i0.out)
 have hE := ((((a0.set 0 (nQ F.p)).set 1 (nQ M)).set 2 (.slice A6 mL c6)).set 3 (nQ N)).set 4 (.slice (sQ e0) l l)
 obtain ⟨q0, q1, q2, q3, q4⟩ := hE.t5
 have r1 := ((((Ad w6 (w.heap.size + 1 + 1) 0 (nQ F.p)).trans (Ad _ (w.heap.size + 1 + 1) 1 (nQ M))).trans (Ad _ (w.heap.size + 1 + 1) 2 (.slice A6 mL c6))).trans (Ad _ (w.heap.size + 1 + 1) 3 (nQ N))).trans (Ad _ (w.heap.size + 1 + 1) 4 (.slice (sQ e0) l l))
 have hB := HW _ (Aa r0 i0.out)
 have i3 := i0.size
 refine bodyPost_ret (v := .tuple #[.agg #[nQ F.p, nQ M, .slice A6 mL c6, nQ N, .slice (sQ e0) l l], zQ]) (by simp [results, Tryz.results62, go_sem, q0, q1, q2, q3, q4]) rfl ⟨A6, c6, _, rfl, f3.kept r1 (fun b u1 e h0 => by have := i2 b u1 e h0; omega), ((u2.below r0).kept r1 (by omega)).mono (by omega), hB.grown r1 hB.size (fun k9 w0 => by simp at w0; omega), fun b u1 e h0 => by have := i2 b u1 e h0; omega⟩
def Mz (F S : FD) (w : WQ) (e : Ending) (w' : WQ) : Prop :=
 ∃ h A c, e = .returned (.tuple #[pQ h, .slice A S.q c, zQ]) ∧ GFat w' h F ∧ RdN w' A S.q c (imgL F S) ∧ From w w'
theorem Pu (w : WQ) (F S : FD) (hF : F.Ok) (hS : S.Ok) (hp : S.p = F.p) (hd : (F.m + 1) % (S.m + 1) = 0) (A As : OQ) (c cs : Nat) (hmod : RdN w A (modL F).length c (modL F)) (hmods : RdN w As (modL S).length cs (modL S)) :
  cQ 24 #[Ax S As cs, Ax F A c, Ax S As cs] w (Mz F S w) := by
 have i0 := fun (wx : WQ) (h9 : From w wx) => Po wx S hS As cs (hmods.below h9)
 have d0 := fun (wx : WQ) (h9 : From w wx) => Kv wx F hF A c (hmod.below h9)
 have a0 := fun (wx : WQ) (h9 : From w wx) (b : Nat) (hG : GFat wx b F) => eZ wx F S b hG hS hp hd As cs (hmods.below h9)
 have e1 : ∀ F A c, Ax F A c = .agg #[nQ F.p, .int .i64 ((F.m + 1 : Nat) : Int), .slice A (modL F).length c] := fun _ _ _ => rfl
 unfold Ga at d0
 unfold Wl at a0
 unfold Mz
 simp only [e1] at i0 d0 a0 ⊢
 have t0 := sK i0
 have w0 := sK d0
 have v0 := sK a0
 clear i0 d0 a0 e1 hmod hmods hd hF hS
 have HP := sK hp
 clear hp
 generalize (modL F).length = mL at *
 generalize F.m + 1 = M at *
 generalize (modL S).length = mS at *
 generalize S.m + 1 = Ms at *
 go_enter Tryz.func24, Tryz.ntmps24
 go_upto_region 1 with fail
 obtain ⟨W, hW, z0, g0, b0, b1, b2⟩ := mk3 w #[nQ S.p, nQ Ms, .slice As mS cs] 24 #[nQ F.p, nQ M, .slice A mL c] 24 #[nQ S.p, nQ Ms, .slice As mS cs] 24
 rw [hW]
 clear hW
 have HC : Hid (∀ wx, From W wx -> (wx.cell? ⟨w.heap.size, 0, none⟩ = some (nQ S.p) ∧ wx.cell? ⟨w.heap.size, 1, none⟩ = some (nQ Ms) ∧ wx.cell? ⟨w.heap.size, 2, none⟩ = some (.slice As mS cs)) ∧ (wx.cell? ⟨w.heap.size + 1, 0, none⟩ = some (nQ F.p) ∧ wx.cell? ⟨w.heap.size + 1, 1, none⟩ = some (nQ M) ∧ wx.cell? ⟨w.heap.size + 1, 2, none⟩ = some (.slice A mL c)) ∧ (wx.cell? ⟨w.heap.size + 1 + 1, 0, none⟩ = some (nQ S.p) ∧ wx.cell? ⟨w.heap.size + 1 + 1, 1, none⟩ = some (nQ Ms) ∧ wx.cell? ⟨w.heap.size + 1 + 1, 2, none⟩ = some (.slice As mS cs))) := sK fun wx hx =>
  have h0 := b0.below hx; have h1 := b1.below hx; have h2 := b2.below hx
  ⟨⟨h0.c0, h0.c1, h0.c2⟩, ⟨h1.c0, h1.c1, h1.c2⟩, h2.c0, h2.c1, h2.c2⟩
 have x0 := sK g0
 have HW : Hid (∀ wx, From W wx -> From w wx) := sK fun wx hx => g0.trans (qf hx (by omega))
 clear b0 b1 b2 g0
 obtain ⟨⟨p0, p1, p2⟩, ⟨q0, q1, q2⟩, r0, r1, r2⟩ := HC W (From.refl W)
 go_upto_region 3 with (go_at_call 51; refine (t0 W x0.out).mono ?_; rintro e w2 ⟨rfl, l0⟩)
 have e0 := sK l0
 clear l0 p0 p1 p2 q0 q1 q2 r0 r1 r2
 obtain ⟨⟨p0, p1, p2⟩, ⟨q0, q1, q2⟩, r0, r1, r2⟩ := HC w2 e0.out
 go_upto_region 6 with (go_at_call 54; refine (w0 w2 (HW w2 e0.out)).mono ?_; rintro e w3 ⟨h, rfl, hh, o0, m0⟩)
 have f0 := sK (Aa m0 e0.out)
 have j0 := sK o0
 clear m0 o0 p0 p1 p2 q0 q1 q2 r0 r1 r2
 obtain ⟨⟨p0, p1, p2⟩, ⟨q0, q1, q2⟩, r0, r1, r2⟩ := HC w3 f0.out
 go_wp2_with (go_at_call 55; refine (v0 w3 (HW w3 f0.out) h j0.out).mono ?_; rintro e w4 ⟨A4, c4, rfl, y0, n0⟩)
 refine bodyPost_ret (v := .tuple #[pQ h, .slice A4 S.q c4, zQ]) (by simp [results, Tryz.results24, go_sem]) rfl ?_
 exact ⟨h, A4, c4, rfl, j0.below n0, y0.rd, HW _ (Aa n0 f0.out)⟩
end Go.Proofs.YtoalkldfhkabnaaGreatDoor
