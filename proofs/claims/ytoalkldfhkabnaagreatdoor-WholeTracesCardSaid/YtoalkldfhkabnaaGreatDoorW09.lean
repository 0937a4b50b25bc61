/- Part of WholeTraces. -/
import Derived.Test.YtoalkldfhkabnaaGreatDoorW00
import Derived.Test.YtoalkldfhkabnaaGreatDoorW08
set_option linter.all false
set_option maxRecDepth 10000
set_option maxHeartbeats 16000000
namespace Go.Proofs.YtoalkldfhkabnaaGreatDoor
open Go.RowKit Fq
def OwnM (w : WQ) (base : Nat) (A : OQ) (n c : Nat) (R : LQ) : Prop :=
 ∃ g n' c' vs R', A = sQ g ∧ Az w base g n' c' vs R' ∧ n <= n' ∧ n <= c ∧ c <= c' ∧ R = R'.take n
section
variable {w w' : WQ} {base n c : Nat} {A : OQ} {R : LQ}
theorem OwnM.rd (h : OwnM w base A n c R) : RdM w A n c R := by
 obtain ⟨g, n', c', vs, R', rfl, h1, h2, h3, h4, rfl⟩ := h
 exact h1.rd.head h2 h3 h4
theorem OwnM.below (h : OwnM w base A n c R) (hb : Below w.heap.size w w') : OwnM w' base A n c R := by
 obtain ⟨g, n', c', vs, R', rfl, h1, h2, h3, h4, rfl⟩ := h
 exact ⟨g, n', c', vs, R', rfl, h1.below hb, h2, h3, h4, rfl⟩
theorem OwnM.mono (h : OwnM w base A n c R) {b : Nat} (hb : b <= base) : OwnM w b A n c R := by
 obtain ⟨g, n', c', vs, R', rfl, h1, h2, h3, h4, rfl⟩ := h
 exact ⟨g, n', c', vs, R', rfl, h1.lower hb, h2, h3, h4, rfl⟩
theorem OwnM.kept (h : OwnM w base A n c R) {r : Nat} (hg : w.grownBy w' (some r)) (hr : r < base) : OwnM w' base A n c R := by
 obtain ⟨g, n', c', vs, R', rfl, h1, h2, h3, h4, rfl⟩ := h
 refine ⟨g, n', c', vs, R', rfl, h1.kept hg (fun e => ?_) (fun j b hj hb e => ?_), h2, h3, h4, rfl⟩
 ·have := h1.head.1; simp only [qc] at e; omega
 ·have := (h1.blkLt hj hb).1; simp only [qc] at e; omega
theorem OwnM.set (h : OwnM w base A n c R) {r : Nat} (hr : r < base) (k : Nat) (v : Value) : OwnM (w.setCell ⟨r, k, none⟩ v) base A n c R := h.kept (Ad w r k v) hr
theorem OwnN.far {l : NQ} (h : OwnN w base A n c l) {r : Nat} (hr : r < base) (k : Nat) (v : Value) : OwnN (w.setCell ⟨r, k, none⟩ v) base A n c l := h.kept (Ad w r k v) fun g hg e => by
 have := h.form
 rw [hg] at this
 rcases this with ⟨h1, _⟩ | ⟨g', h1, h2, _⟩
 ·cases h1
 ·simp only [qc, qd, and_true] at h1 e
  omega
end
def To (st : LQ × NQ) (w : WQ) (e : Ending) (w' : WQ) : Prop :=
 ∃ g A pc, e = .returned (.tuple #[.slice (sQ g) st.2.length st.2.length, .slice A st.2.length pc]) ∧ OwnM w' w.heap.size (sQ g) st.2.length st.2.length st.1 ∧ OwnN w' w.heap.size A st.2.length pc st.2 ∧ Below w.heap.size w w'
theorem Mn (w : WQ) (b : Nat) (F : FD) (hGF : GFat w b F) (B : OQ) (n c : Nat) (R : LQ) (hR : RdM w B n c R) (m : Nat) (hM : Mat F.fld m R) (hm0 : 0 < m) (hm9 : m <= 1000) (hn9 : n <= 1000) :
  cQ 64 #[pQ b, .slice B n c, nQ m] w (To (Bc F.fld R m) w) := by
 have hI := Fs hGF.ok.fldOk hM m (qb _)
 have g0 := Ql w B n c m R hR hn9 (fun r hr => (hM r hr).1) hm0 hm9
 have j0 := sK g0
 have h0 := fun (w2 : WQ) (g : Nat) (vs : VQ) (hG : Az w2 w.heap.size g n n vs R) (hb : Below w.heap.size w w2) => lQ w w2 b F hGF hb w.heap.size g n (qb _) vs R hG m m hM hm0 hm9 (qb _) hn9
 have a0 := sK h0
 have b0 : (elim F.fld R m).2.length <= n := by
  have h1 := hI.ple; have h2 := hI.len; have h3 := hR.len; omega
 have f0 : Bc F.fld R m = ((elim F.fld R m).1.take (elim F.fld R m).2.length, (elim F.fld R m).2) := rfl
 rw [f0]
 clear g0 h0 hGF hR hM hI f0
 generalize elim F.fld R m = st at *
 obtain ⟨R1, P1⟩ := st
 simp only at b0
 obtain ⟨L, hL⟩ := xQ P1.length
 unfold To
 unfold Sj at a0
 simp only at a0 ⊢
 rw [<- hL] at b0 a0 ⊢
 clear hL
 go_enter Tryz.func64, Tryz.ntmps64
 go_wp2_with (go_at_call 122; refine j0.mono ?_; rintro e w2 ⟨vs, rfl, hG, e0⟩)
 have HG := sK hG
 have HB := sK e0
 clear hG e0
 go_wp2_with (go_at_call 123; refine (a0 _ _ _ HG HB.out).mono ?_; rintro e w3 ⟨A, pc, d, n0, rfl, hP, d0, c0⟩)
 have HP := sK hP
 have l0 := sK d0
 have i0 := sK c0
 clear hP d0 c0
 have m0 : (L : Int) <= (n : Int) := by omega
 go_ret2
 exact ⟨_, A, pc, rfl, ⟨_, _, _, _, _, rfl, l0.out, b0, qb _, b0, rfl⟩, HP.mono HB.size, HB.trans i0.out⟩
def Lu (m : Nat) (st : LQ × NQ) (w : WQ) (e : Ending) (w' : WQ) : Prop :=
 ∃ g A pc, e = .returned (.tuple #[matV m (sQ g) st.2.length st.2.length, .slice A st.2.length pc, zQ]) ∧ OwnM w' w.heap.size (sQ g) st.2.length st.2.length st.1 ∧ OwnN w' w.heap.size A st.2.length pc st.2 ∧ Below w.heap.size w w'
theorem Mats.one {w : WQ} {F : FD} {bs m n c : Nat} {B : OQ} {R : LQ} (hlt : bs < w.heap.size) (h0 : w.cell? ⟨bs, 0, none⟩ = some (nQ m)) (h1 : w.cell? ⟨bs, 1, none⟩ = some (.slice B n c)) (hr : RdM w B n c R) (hm : m <= 256) (hn : n <= 256) (hM : Mat F.fld m R) :
  Mats w F bs 1 (fun _ => m) (fun _ => n) (fun _ => c) (fun _ => B) (fun _ => R) :=
 ⟨hlt, fun i hi => by rw [show i = 0 by omega]; exact h0, fun i hi => by rw [show i = 0 by omega]; exact h1, fun _ _ => hr, fun _ _ => ⟨hm, hn, hM⟩⟩
theorem Fm (w : WQ) (F : FD) (hF : F.Ok) (A : OQ) (c : Nat) (hmod : RdN w A (modL F).length c (modL F)) (m n c' : Nat) (B : OQ) (R : LQ) (hR : RdM w B n c' R) (hM : Mat F.fld m R) (hm0 : 0 < m) (hm9 : m <= 256) (hn9 : n <= 256) :
  cQ 117 #[Ax F A c, matV m B n c'] w (Lu m (Bc F.fld R m) w) := by
 have m0 := fun (w' : WQ) (hb : Below w.heap.size w w') (bs : Nat) (hlt : bs < w'.heap.size) (h0 : w'.cell? ⟨bs, 0, none⟩ = some (nQ m)) (h1 : w'.cell? ⟨bs, 1, none⟩ = some (.slice B n c')) => Hl w' F hF A c (hmod.below hb) bs 1 1 (by omega) ⟨qb _, by unfold maxLen; omega⟩ _ _ _ _ _ (Mats.one hlt h0 h1 (hR.below hb) hm9 hn9 hM)
 have e0 := sK m0
 have i0 := fun (w' : WQ) (hb : Below w.heap.size w w') (b : Nat) (hG : GFat w' b F) => Mn w' b F hG B n c' R (hR.below hb) m hM hm0 (by omega) (by omega)
 have c0 := sK i0
 clear m0 i0
 obtain ⟨mL, l0⟩ := xQ ((modL F).length)
 obtain ⟨M, f0⟩ := xQ (F.m + 1)
 have e1 : Ax F A c = .agg #[nQ F.p, nQ M, .slice A mL c] := by rw [f0, l0]; rfl
 have e2 : matV m B n c' = .agg #[nQ m, .slice B n c'] := rfl
 rw [e1] at e0 ⊢
 rw [e2]
 clear e1 e2 f0 l0 hmod hR hM
 generalize Bc F.fld R m = st at *
 obtain ⟨R1, P1⟩ := st
 unfold To at c0
 unfold Lu
 simp only at c0 ⊢
 generalize P1.length = L at *
 go_enter Tryz.func117, Tryz.ntmps117
 go_upto_region 1 with fail
 obtain ⟨W, hW⟩ := xQ (((w.alloc (.cells #[nQ F.p, nQ M, .slice A mL c] 24)).alloc (.cells #[nQ m, .slice B n c'] 52)).alloc (.cells #[zQ, eQ] 52))
 have i1 : W.heap.size = w.heap.size + 3 := by rw [hW]; simp
 have d0 : Below w.heap.size w W := by rw [hW]; exact (((bR).alloc (qb _) _).alloc (by simp) _).alloc (by simp; omega) _
 have hC : (W.cell? ⟨w.heap.size, 0, none⟩ = some (nQ F.p) ∧ W.cell? ⟨w.heap.size, 1, none⟩ = some (nQ M) ∧ W.cell? ⟨w.heap.size, 2, none⟩ = some (.slice A mL c)) ∧ (W.cell? ⟨w.heap.size + 1, 0, none⟩ = some (nQ m) ∧ W.cell? ⟨w.heap.size + 1, 1, none⟩ = some (.slice B n c')) ∧
   W.cell? ⟨w.heap.size + 1 + 1, 0, none⟩ = some (zQ) ∧ W.cell? ⟨w.heap.size + 1 + 1, 1, none⟩ = some (eQ) ∧ W.frozen? ⟨w.heap.size + 1 + 1, 0, none⟩ = false ∧ W.frozen? ⟨w.heap.size + 1 + 1, 1, none⟩ = false := by
  rw [hW]; refine ⟨⟨?_, ?_, ?_⟩, ⟨?_, ?_⟩, ?_, ?_, ?_, ?_⟩ <;> go_simp
 rw [<- hW]
 clear hW
 obtain ⟨⟨t0, v0, w0⟩, ⟨j0, x0⟩, a1, c1, f1, g1⟩ := hC
 go_upto_region 4 with (go_at_call 63; refine (e0 _ (d0.trans ((Ac _ _).mono (by omega))) _ ?_ ?_ ?_).mono ?_; rotate_left 3; rintro e w2 ⟨b, rfl, j1, hG, g0⟩)
 rotate_left 1
 ·rw [qi]; omega
 ·go_simp
 ·go_simp
 have a0 : From W w2 := (Ac W _).trans (g0.mono (by rw [qi]; omega))
 have HG := sK hG
 have k1 := (a0.cell (p := ⟨w.heap.size + 1, 0, none⟩) (by simp only; omega)).trans j0
 have m1 := (a0.cell (p := ⟨w.heap.size + 1, 1, none⟩) (by simp only; omega)).trans x0
 clear hG g0 t0 v0 w0
 go_upto_region 5 with (go_at_call 64; refine (c0 _ (d0.trans (qf a0 (by omega))) _ HG.out).mono ?_; rintro e w3 ⟨g, P, pc, rfl, o0, n0, q0⟩)
 have n1 : W.heap.size <= w2.heap.size := a0.size
 have b0 : From W w3 := qcz a0 (q0.mono a0.size)
 have l1 := (b0.cell (p := ⟨w.heap.size + 1, 0, none⟩) (by simp only; omega)).trans j0
 have b1 := (b0.cell (p := ⟨w.heap.size + 1 + 1, 0, none⟩) (by simp only; omega)).trans a1
 have d1 := (b0.cell (p := ⟨w.heap.size + 1 + 1, 1, none⟩) (by simp only; omega)).trans c1
 have o1 := (b0.frozen (p := ⟨w.heap.size + 1 + 1, 0, none⟩) (by simp only; omega)).trans f1
 have q1 := (b0.frozen (p := ⟨w.heap.size + 1 + 1, 1, none⟩) (by simp only; omega)).trans g1
 have r0 : Below w.heap.size w w3 := d0.trans (qf b0 (by omega))
 go_wp2
 have y0 : ∀ x, ((w3.setCell ⟨w.heap.size + 1 + 1, 0, none⟩ (nQ m)).setCell ⟨w.heap.size + 1 + 1, 1, none⟩ x).cell? ⟨w.heap.size + 1 + 1, 0, none⟩ = some (nQ m) := fun x => by
  rw [qbc _ _ _ _ (by intro h; simp at h), qaw _ _ _ b1]
 have z0 : ∀ x, ((w3.setCell ⟨w.heap.size + 1 + 1, 0, none⟩ (nQ m)).setCell ⟨w.heap.size + 1 + 1, 1, none⟩ x).cell? ⟨w.heap.size + 1 + 1, 1, none⟩ = some x := fun x => by
  exact qaw _ _ _ (h := by rw [qbc _ _ _ _ (by intro h; simp at h)]; exact d1)
 refine bodyPost_ret (v := .tuple #[matV m (sQ g) L L, .slice P L pc, zQ]) (by simp [results, Tryz.results117, go_sem, y0, z0, matV]) rfl ⟨g, P, pc, rfl, ?_, ?_, ?_⟩
 ·exact ((o0.set (by omega) _ _).set (by omega) _ _).mono (by omega)
 ·exact ((n0.far (by omega) _ _).far (by omega) _ _).mono (by omega)
 ·exact (r0.setCell (p := ⟨w.heap.size + 1 + 1, 0, none⟩) (by simp only; omega) _).setCell (p := ⟨w.heap.size + 1 + 1, 1, none⟩) (by simp only; omega) _
def idx (l : NQ) (x : Nat) : Int := if x ∈ l then (l.idxOf x : Int) else -1
theorem rW {l : NQ} {x i : Nat} (hi : i < l.length) (h : ∀ j, j < i -> l.getD j 0 ≠ x) (he : l.getD i 0 = x) : idx l x = (i : Int) := by
 have hm : x ∈ l := by rw [<- he]; exact Ap hi _
 have e : l.idxOf x = i := by
  have h1 : l.idxOf x < l.length := List.idxOf_lt_length_iff.2 hm; have h2 : l.getD (l.idxOf x) 0 = x := by
   rw [qa, qh h1]; exact List.getElem_idxOf h1
  have h3 : ¬ l.idxOf x < i := fun h4 => h _ h4 h2
  have h4 : ¬ i < l.idxOf x := fun h5 => by
   have h6 := List.not_of_lt_findIdx (p := (· == x)) (xs := l) (by simpa [List.idxOf] using h5); rw [qa, qh hi] at he; simp at h6; exact h6 he
  omega
 rw [idx, if_pos hm, e]
theorem nN {l : NQ} {x : Nat} (h : ∀ j, j < l.length -> l.getD j 0 ≠ x) : idx l x = -1 := by
 rw [idx, if_neg]
 intro hm
 obtain ⟨j, hj, he⟩ := Iq.1 hm
 exact h j hj (by rw [qa, qh hj]; exact he)
theorem Qz (w : WQ) (A : OQ) (n c : Nat) (l : NQ) (hr : RdN w A n c l) (x : Nat) : cQ 61 #[.slice A n c, iv x] w (Ba (.int .i64 (idx l x)) w) := by
 have m0 := hr.le63
 unfold iv
 have HR := sK hr
 have f0 := hr.len
 have d0 := sK f0
 clear hr f0
 go_enter Tryz.func61, Tryz.ntmps61
 go_wp2
 go_loopw [8] (fun c0 wr => ∃ i, i <= n ∧ c0 = nQ i ∧ wr = w ∧ ∀ j, j < i -> l.getD j 0 ≠ x) (fun c0 _ => n - (intOf c0).toNat)
 case atStart => exact ⟨0, qe _, rfl, rfl, fun j hj => by omega⟩
 case round =>
  obtain ⟨i, hi, rfl, g0, hz⟩ := hrel; have HZ := sK hz; have b0 := sK g0; clear hz g0
  by_cases hin : i < n
  ·obtain ⟨b, n0, hA, _, hc⟩ := (show RdN wr A n c l by rw [b0.out]; exact HR.out).at hin
   subst hA; have l0 : (i : Int) < (n : Int) := by omega
   obtain ⟨y, hy⟩ := xQ (l.getD i 0); rw [<- hy] at hc; have HY := sK hy; clear hy
   by_cases he : y = x
   ·have a0 := sK (rW (by rw [d0.out]; exact hin) HZ (HY.symm.trans he))
    subst he; go_wp2; go_ret; exact ⟨by rw [a0.out]; rfl, b0.symm⟩
   ·have i0 : ((x : Int) == (y : Int)) = false := by simp; omega
    have j0 : ¬ (x : Int) = (y : Int) := by omega
    have h0 : Hid (∀ j, j < i + 1 -> l.getD j 0 ≠ x) := sK fun j hj => by
     by_cases hji : j = i
     ·rw [hji, <- HY.out]; exact he
     ·exact HZ j (by omega)
    clear he; go_wp2; go_roundw
    case rel => exact ⟨i + 1, by omega, by go_num, b0.out, h0.out⟩
    case measure => simp [intOf]; omega
  ·obtain rfl : i = n := by omega
   have a0 := sK (show idx l x = -1 from nN (by rw [d0.out]; exact HZ.out)); go_wp2; go_ret; exact ⟨by rw [a0.out]; rfl, b0.symm⟩
theorem pC (l : NQ) (x : Nat) : decide ((0 : Int) <= idx l x) = decide (x ∈ l) := by
 unfold idx
 by_cases h : x ∈ l <;> simp [h]
theorem Ic (w : WQ) (A : OQ) (n c : Nat) (l : NQ) (hr : RdN w A n c l) (x : Nat) : cQ 65 #[.slice A n c, iv x] w (Ba (.bool (decide (x ∈ l))) w) := by
 have e0 := Qz w A n c l hr x
 have he := pC l x
 have a0 := sK e0
 have HE := sK he
 clear hr e0 he
 unfold iv at *
 generalize idx l x = i at *
 go_enter Tryz.func65, Tryz.ntmps65
 go_wp2_with (go_at_call 61; refine a0.mono ?_; rintro e w' ⟨rfl, rfl⟩)
 go_ret
 exact ⟨by rw [<- HE.out]; rfl, rfl⟩
structure En (w : WQ) (base : Nat) (A : OQ) (n c : Nat) (R : LQ) : Prop where
 len : R.length = n
 own : ∃ vs, w.ownsRow base 22 1 (.slice A n c) n vs ∧ ∀ i, i < n -> ∃ Ai ci, vs.getD i undef = .slice Ai (R.getD i []).length ci ∧ RdN w Ai (R.getD i []).length ci (R.getD i []) ∧
  ∀ b a0, Ai = some ⟨b, a0, none⟩ -> 0 < (R.getD i []).length -> (Value.slice A n c).ownBlock ≠ some b
section
variable {w w' : WQ} {base n c : Nat} {A : OQ} {R : LQ}
theorem En.nil (w : WQ) (base : Nat) : En w base none 0 0 [] := ⟨rfl, [], Rq w base _ 1, fun i hi => absurd hi (by omega)⟩
theorem En.below (h : En w base A n c R) (hb : Below w.heap.size w w') : En w' base A n c R := by
 obtain ⟨vs, h1, h2⟩ := h.own
 refine ⟨h.len, vs, Ag h1 hb (qb _), fun i hi => ?_⟩
 obtain ⟨Ai, ci, h3, h4, h5⟩ := h2 i hi
 exact ⟨Ai, ci, h3, h4.below hb, h5⟩
theorem En.head (h : En w base A n c R) : n <= c ∧ c <= maxLen := by
 obtain ⟨vs, h1, _⟩ := h.own
 rcases h1.2 with ⟨h2, h3⟩ | ⟨g, c0, cur, h2, _, _, h3, h4, _⟩
 ·simp only [qm] at h2
  rw [h3, h2.2.2]; exact ⟨qb _, by unfold maxLen; omega⟩
 ·simp only [qm] at h2
  rw [h2.2.2]; exact ⟨h3, h4⟩
theorem En.rd (h : En w base A n c R) : RdM w A n c R := by
 refine ⟨h.len, h.head.1, h.head.2, fun h0 => ?_⟩
 obtain ⟨vs, h1, h2⟩ := h.own
 obtain ⟨g, c0, hv, _, f0⟩ := h1.form h0
 simp only [qm, true_and] at hv
 obtain ⟨rfl, rfl⟩ := hv
 refine ⟨g, 0, rfl, f0, fun i hi => ?_⟩
 obtain ⟨Ai, ci, h3, h4, _⟩ := h2 i hi
 have b0 : vs.length = n := by have := h1.1; omega
 refine ⟨Ai, ci, ?_, h4⟩
 have h6 := h1.cellAt i (by omega)
 rw [Zq, h6, <- h3]
 simp [qa, b0, hi]
end
section
variable {P : Program} {w : WQ} {ops : Array Oper} {rest : List Oper} {o : Oper} {a : Act} {Q : Exit -> Act -> WQ -> Prop}
theorem Ha (hgd : o.guard = none) (s x : Operand) (t : TypeId)
  (ho : o.op = .call { callee := .builtin .append, args := #[s, x], argTypes := #[t, t] }) (i : TypeInfo) (ht : P.underlying t = some (.slice 22)) (hi : P.info? 22 = some i) (hz : i.zero = some (eQ)) (hsize : i.size = 1) (hby : i.bytes = 24)
  (base : Nat) (A : OQ) (n c : Nat) (R : LQ) (hs : a.eval s = .slice A n c) (hown : En w base A n c R)
  (b : Nat) (hx : a.eval x = .slice (sQ b) 1 1) (Ai : OQ) (ci : Nat) (l : NQ) (hc : w.cell? ⟨b, 0, none⟩ = some (.slice Ai l.length ci)) (hr : RdN w Ai l.length ci l)
  (hap : ∀ b a0, Ai = some ⟨b, a0, none⟩ -> 0 < l.length -> (Value.slice A n c).ownBlock ≠ some b) (hn : n <= 1000000) (hbase : base <= w.heap.size)
  (h : ∀ A' c' w', En w' base A' (n + 1) c' (R ++ [l]) -> w.grownBy w' (Value.slice A n c).ownBlock -> wpList P ops Q rest (a.put o.dst (.slice A' (n + 1) c')) w') :
  wpList P ops Q (o :: rest) a w := by
 obtain ⟨vs, h1, h2⟩ := hown.own
 refine wpList_append_lies w hgd s x t ho base 22 i (eQ) 1 24 ht hi hz hsize hby rfl (by omega) _ n vs hs h1 ⟨b, 0, none⟩ 1 1 [.slice Ai l.length ci] hx rfl (fun j u hj => ?_) (by simp [Value.oneCell']) (by omega) (by unfold maxLen; omega) (by omega) hbase _ rfl ?_
 ·cases j with
  | zero =>
   have : u = .slice Ai l.length ci := by simpa using hj.symm
   rw [this, <- hc]; rfl
  | succ j => simp at hj
 ·intro g c0 w' h3 h4 h5 h6
  have b0 : vs.length = n := by have := h1.1; omega
  have g0 : ∀ (B : OQ) (m d : Nat) (u : NQ), RdN w B m d u -> (∀ b a0, B = some ⟨b, a0, none⟩ -> 0 < m -> (Value.slice A n c).ownBlock ≠ some b) ->
    RdN w' B m d u ∧ ∀ b a0, B = some ⟨b, a0, none⟩ -> 0 < m -> (Value.slice (sQ g) (n + 1) c0).ownBlock ≠ some b := fun B m d u hu ha => by
   have f0 : ∀ b a0, B = some ⟨b, a0, none⟩ -> 0 < m -> b < w.heap.size := fun b a0 e hm => by
    obtain ⟨b', j0, e', i0, _⟩ := hu.cells hm; rw [e] at e'; simp only [qc, qd] at e'; omega
   constructor
   ·cases hob : (Value.slice A n c).ownBlock with
    | none =>
     rw [hob] at h4; exact hu.below ⟨h4.os, h4.tape, h4.output, h4.size, fun k hk => h4.block k hk (by simp)⟩
    | some r =>
     rw [hob] at h4; exact hu.kept h4 fun b a0 e hm e2 => ha b a0 e hm (by rw [hob, e2])
   ·intro b a0 e hm e2
    have e3 : g = b := by simpa [Value.ownBlock] using e2
    rcases h5 with h5 | h5
    ·exact ha b a0 e hm (by rw [h5, e3])
    ·have := f0 b a0 e hm
     omega
  refine h _ c0 w' ⟨by rw [Hq, hown.len]; rfl, _, h3, fun k hk => ?_⟩ h4
  by_cases hkn : k < n
  ·obtain ⟨Aj, cj, h7, h8, h9⟩ := h2 k hkn
   have e1 : (R ++ [l]).getD k [] = R.getD k [] := by rw [qa, Pq (by rw [hown.len]; exact hkn), qa]
   have e2 : (vs ++ [Value.slice Ai l.length ci]).getD k undef = vs.getD k undef := by rw [qa, Pq (by rw [b0]; exact hkn), qa]
   rw [e1, e2]; obtain ⟨d0, e0⟩ := g0 _ _ _ _ h8 h9; exact ⟨Aj, cj, h7, d0, e0⟩
  ·obtain rfl : k = n := by omega
   have e1 : (R ++ [l]).getD k [] = l := by rw [qa, Gq (by rw [hown.len]; exact qb _), hown.len, qaa]; rfl
   have e2 : (vs ++ [Value.slice Ai l.length ci]).getD k undef = Value.slice Ai l.length ci := by rw [qa, Gq (by rw [b0]; exact qb _), b0, qaa]; rfl
   rw [e1, e2]; obtain ⟨d0, e0⟩ := g0 _ _ _ _ hr hap; exact ⟨Ai, ci, rfl, d0, e0⟩
end
def Ya (m : Nat) (K : LQ) (w : WQ) (e : Ending) (w' : WQ) : Prop :=
 ∃ g, e = .returned (.tuple #[matV m (sQ g) K.length K.length, zQ]) ∧ OwnM w' w.heap.size (sQ g) K.length K.length K ∧ Below w.heap.size w w'
theorem Cn {F : Fld} {n : Nat} {R : LQ} {P : NQ} (h : Rref F n R P) : P.length <= n := by
 have key : ∀ i, i < P.length -> i <= P.getD i 0 := fun i => by
  induction i with
  | zero => intro _; exact qe _
  | succ i ih =>
   intro hi; have h1 := ih (by omega); have h2 := h.inc i (i + 1) (by omega) hi; omega
 rcases Xq P.length with h0 | h0
 ·omega
 ·have h1 := key (P.length - 1) (by omega)
  have h2 := h.lt (P.length - 1) (by omega); omega
theorem Ll (F : Fld) (R : LQ) (P : NQ) (n : Nat) : ∀ m, (Bf F R P n m).length <= m
 | 0 => qb _
 | m + 1 => by
  have := Ll F R P n m; simp only [Bf]; split
  ·omega
  ·simp; omega
theorem Yu (w : WQ) (F : FD) (hF : F.Ok) (A : OQ) (c : Nat) (hmod : RdN w A (modL F).length c (modL F)) (m n c' : Nat) (B : OQ) (R : LQ) (hR : RdM w B n c' R) (hM : Mat F.fld m R) (hm0 : 0 < m) (hm9 : m <= 256) (hn9 : n <= 256) :
  cQ 26 #[Ax F A c, matV m B n c'] w (Ya m (kern F.fld R m) w) := by
 obtain ⟨i0, k4, d5, e5, f5⟩ := info_parts Bj
 obtain ⟨i1, l4, u4, y4, a5⟩ := info_parts Eg
 have z2 := fun (w' : WQ) (hb : Below w.heap.size w w') (bs : Nat) (hlt : bs < w'.heap.size) (h0 : w'.cell? ⟨bs, 0, none⟩ = some (nQ m)) (h1 : w'.cell? ⟨bs, 1, none⟩ = some (.slice B n c')) => Hl w' F hF A c (hmod.below hb) bs 1 1 (by omega) ⟨qb _, by unfold maxLen; omega⟩ _ _ _ _ _ (Mats.one hlt h0 h1 (hR.below hb) hm9 hn9 hM)
 have y1 := sK z2
 have v0 := fun (w' : WQ) (hb : Below w.heap.size w w') (b : Nat) (hG : GFat w' b F) => Mn w' b F hG B n c' R (hR.below hb) m hM hm0 (by omega) (by omega)
 have x0 := hF.fldOk
 obtain ⟨j0, _, _⟩ := Bn x0 hM
 have r0 : Mat F.fld m (Bf F.fld (Bc F.fld R m).1 (Bc F.fld R m).2 m m) := Dk x0 j0.mat
 have c1 := (Bn x0 r0).1.len
 have z3 := Ll F.fld (Bc F.fld R m).1 (Bc F.fld R m).2 m m
 have w0 := fun (w' : WQ) (b : Nat) (hG : GFat w' b F) (B' : OQ) (no co : Nat) (y2 : no <= 1000) (h9 : RdM w' B' no co (Bf F.fld (Bc F.fld R m).1 (Bc F.fld R m).2 m m)) => Mn w' b F hG B' no co _ h9 m r0 hm0 (by omega) y2
 have hk : kern F.fld R m = (Bc F.fld (Bf F.fld (Bc F.fld R m).1 (Bc F.fld R m).2 m m) m).1 := rfl
 obtain ⟨mL, v2⟩ := xQ ((modL F).length)
 obtain ⟨M, a2⟩ := xQ (F.m + 1)
 have e1 : Ax F A c = .agg #[nQ F.p, nQ M, .slice A mL c] := by rw [a2, v2]; rfl
 have e2 : matV m B n c' = .agg #[nQ m, .slice B n c'] := rfl
 rw [e1] at y1 ⊢
 rw [e2, hk]
 unfold To at v0 w0
 unfold Ya
 generalize Bc F.fld R m = st at *
 obtain ⟨R1, P1⟩ := st
 simp only at v0 w0 j0 r0 c1 z3 ⊢
 have a4 : P1.length <= m := Cn j0
 have r1 := sK w0
 have l3 := sK v0
 have q0 := sK j0
 have u1 := sK c1
 clear z2 v0 w0 e1 e2 a2 v2 hmod hR hM r0 j0 hk c1
 obtain ⟨h3, f3⟩ := xQ (Bc F.fld (Bf F.fld R1 P1 m m) m)
 rw [<- f3] at r1 u1 ⊢
 clear f3
 rw [u1.out]
 generalize hL : P1.length = L at *
 have HL := sK hL
 clear hL
 go_enter Tryz.func26, Tryz.ntmps26
 go_upto_region 1 with fail
 obtain ⟨W, hW⟩ := xQ (((w.alloc (.cells #[nQ F.p, nQ M, .slice A mL c] 24)).alloc (.cells #[nQ m, .slice B n c'] 52)).alloc (.cells #[zQ, eQ] 52))
 have n5 : W.heap.size = w.heap.size + 3 := by rw [hW]; simp
 have f1 : Below w.heap.size w W := by rw [hW]; exact (((bR).alloc (qb _) _).alloc (by simp) _).alloc (by simp; omega) _
 have hC : (W.cell? ⟨w.heap.size, 0, none⟩ = some (nQ F.p) ∧ W.cell? ⟨w.heap.size, 1, none⟩ = some (nQ M) ∧ W.cell? ⟨w.heap.size, 2, none⟩ = some (.slice A mL c)) ∧ (W.cell? ⟨w.heap.size + 1, 0, none⟩ = some (nQ m) ∧ W.cell? ⟨w.heap.size + 1, 1, none⟩ = some (.slice B n c')) ∧
   W.cell? ⟨w.heap.size + 1 + 1, 0, none⟩ = some (zQ) ∧ W.cell? ⟨w.heap.size + 1 + 1, 1, none⟩ = some (eQ) ∧ W.frozen? ⟨w.heap.size + 1 + 1, 0, none⟩ = false ∧ W.frozen? ⟨w.heap.size + 1 + 1, 1, none⟩ = false := by
  rw [hW]; refine ⟨⟨?_, ?_, ?_⟩, ⟨?_, ?_⟩, ?_, ?_, ?_, ?_⟩ <;> go_simp
 rw [<- hW]
 clear hW
 obtain ⟨⟨h4, i4, j4⟩, ⟨k1, o4⟩, t4, x4, h5, i5⟩ := hC
 go_upto_region 4 with (go_at_call 63; refine (y1 _ (f1.trans ((Ac _ _).mono (by omega))) _ ?_ ?_ ?_).mono ?_; rotate_left 3; rintro e w2 ⟨b, rfl, o5, hG, i2⟩)
 have a0 : From W w2 := (Ac W _).trans (i2.mono (by rw [qi]; omega))
 have HG := sK hG
 have n4 := (a0.cell (p := ⟨w.heap.size + 1, 0, none⟩) (by simp only; omega)).trans k1
 have p4 := (a0.cell (p := ⟨w.heap.size + 1, 1, none⟩) (by simp only; omega)).trans o4
 clear hG i2 h4 i4 j4
 go_upto_region 5 with (go_at_call 64; refine (l3 _ (f1.trans (qf a0 (by omega))) _ HG.out).mono ?_; rintro e w3 ⟨g, P, pc, rfl, f2, d2, c0⟩)
 have y5 : W.heap.size <= w2.heap.size := a0.size
 have g1 : From W w3 := qcz a0 (c0.mono a0.size)
 have d3 : W.heap.size <= w3.heap.size := g1.size
 have t1 := sK (HG.below c0)
 have t3 := sK f2
 have z1 := sK d2
 have s1 : Hid (∀ wx, From w3 wx -> wx.cell? ⟨w.heap.size + 1, 0, none⟩ = some (nQ m)) := sK fun wx hx => ((qcz g1 (qf hx d3)).cell (p := ⟨w.heap.size + 1, 0, none⟩) (by simp only; omega)).trans k1
 have u2 := s1 w3 (From.refl _)
 have o0 := sK g1
 clear n4 p4 f2 d2 c0 a0
 go_wp2
 clear u2
 have l5 : L <= m := a4
 go_loopw [10, 37] (fun ov cv wr => ∃ (k no co : Nat) (Ao : OQ), k <= m ∧ cv = nQ k ∧ ov = .slice Ao no co ∧ no <= k ∧ En wr w3.heap.size Ao no co (Bf F.fld R1 P1 m k) ∧ From w3 wr) (fun _ cv _ => m - (intOf cv).toNat)
 case atStart => exact ⟨0, 0, 0, none, qe _, rfl, rfl, qb _, En.nil _ _, From.refl _⟩
 case round =>
  obtain ⟨k, no, co, Ao, hk, rfl, rfl, y2, d1, t0⟩ := hrel; have c5 := t0.size; have q4 := s1 wr t0; have g0 := sK d1; have e0 := sK t0; have g4 := d1.head; unfold maxLen at g4; clear d1 t0
  by_cases hkm : k < m
  ·have s5 : (k : Int) < (m : Int) := by omega
   have b0 := Ic wr P L pc P1 (z1.below e0.out).rd k; unfold iv at b0
   by_cases hmem : k ∈ P1
   ·have e9 : decide (k ∈ P1) = true := by simp [hmem]
    rw [e9] at b0; have a1 := sK b0; have HN : Hid (Bf F.fld R1 P1 m (k + 1) = Bf F.fld R1 P1 m k) := sK (by rw [Bf, if_pos hmem]); clear b0 e9 hmem; go_wp2_with (go_at_call 65; refine a1.mono ?_; rintro e w' ⟨rfl, rfl⟩); go_roundw
    case rel => exact ⟨k + 1, no, co, Ao, by omega, by go_num, rfl, by omega, by rw [HN.out]; exact g0.out, e0.out⟩
    case measure => simp [intOf]; omega
   ·have e9 : decide (k ∈ P1) = false := by simp [hmem]
    rw [e9] at b0; have a1 := sK b0; have HN : Hid (Bf F.fld R1 P1 m (k + 1) = Bf F.fld R1 P1 m k ++ [Bh F.fld R1 P1 m k P1.length]) := sK (by rw [Bf, if_neg hmem]); clear b0 e9 hmem; obtain ⟨wo, rfl⟩ := xQ wr; go_upto_region 11 with (first | (go_at_call 65; refine a1.mono ?_; rintro e w' ⟨rfl, rfl⟩) | (at_make; refine Bd rfl _ _ _ rfl i0 Tryz.underlying22 k4 d5 e5 f5 _ _ m rfl rfl (by omega) ?_; intro w4 y0 c0 e3))
    have k2 := y0.cell hkm; have m2 := y0.free k; have l1 := y0.set k (x := 1) (by omega); rw [show (List.replicate m 0).set k 1 = Bh F.fld R1 P1 m k 0 from rfl] at l1; have w1 := sK l1; have n1 := sK c0; clear l1 y0 c0 q4; go_upto_region 12 with fail
    obtain ⟨w5, n0⟩ : ∃ x, x = w4.setCell ⟨wo.heap.size, k, none⟩ (.int .i64 1) := ⟨_, rfl⟩
    have x1 : Hid (OwnN w5 wo.heap.size (sQ wo.heap.size) m m (Bh F.fld R1 P1 m k 0)) := sK (by rw [n0]; exact w1.out); have o0 : Hid (From wo w5) := sK (by rw [n0]; exact n1.setCell (p := ⟨wo.heap.size, k, none⟩) (qb _) _); have z5 : w5.heap.size = wo.heap.size + 1 := by rw [n0, <- e3]; simp [World.setCell]
    rw [<- n0]; clear n0 k2 m2 w1 n1 e3; go_wp2
    go_loopw [51] (fun m1 wr => ∃ i, i <= L ∧ m1 = nQ i ∧ OwnN wr wo.heap.size (sQ wo.heap.size) m m (Bh F.fld R1 P1 m k i) ∧ From wo wr) (fun m1 _ => L - (intOf m1).toNat)
    case atStart => exact ⟨0, qe _, rfl, x1.out, o0.out⟩
    case round =>
     obtain ⟨i, hi, rfl, a3, j1⟩ := hrel; have b1 := sK a3; have z0 := sK j1; have a6 := j1.size; clear a3 j1 x1 o0; have f0 := sK (qcz e0 (qf z0 c5)); have p2 := t1.below f0.out; have p3 := sK p2; clear p2
     by_cases hil : i < L
     ·have r5 : (i : Int) < (L : Int) := by omega
      have r2 : i < R1.length := by rw [q0.len, HL.out]; exact hil
      have s2 : i < P1.length := by rw [HL.out]; exact hil
      have g5 := q0.lt i s2; obtain ⟨pb, e6, b4, u5, v5⟩ := ((z1.below f0.out).rd.at hil)
      obtain ⟨rb, f6, Ai, ci, o2, x5, c3, m0⟩ := ((t3.rd.below f0.out).at hil)
      have t2 := q0.mat.len r2; rw [t2] at c3 m0; simp only [qc, qd, and_true] at o2; obtain ⟨rfl, rfl⟩ := o2; rw [Zq] at c3; obtain ⟨eb, k5, y3, p5, q5⟩ := m0.at hkm; have t5 := m0.cap; have f4 := m0.max; have l2 : (R1.getD i []).getD k 0 < F.q := q0.mat.lt x0 i k; have x2 := Tn wr b F p3 _ l2; have v1 := sK x2; have q3 : Hid (Bh F.fld R1 P1 m k (i + 1) = (Bh F.fld R1 P1 m k i).set (P1.getD i 0) (F.neg ((R1.getD i []).getD k 0))) := sK rfl; have n3 : Hid (∀ j, (wr.drewN j).cell? ⟨wo.heap.size, P1.getD i 0, none⟩ = some (.int .i64 (((Bh F.fld R1 P1 m k i).getD (P1.getD i 0) 0 : Nat) : Int)) ∧ (wr.drewN j).frozen? ⟨wo.heap.size, P1.getD i 0, none⟩ = false) := sK fun j =>
       have h9 := b1.below (Ae (bR) j)
       ⟨h9.cell g5, h9.free _⟩
      have l0 : F.neg ((R1.getD i []).getD k 0) < 1000000 := by have := hF.neg_lt ((R1.getD i []).getD k 0); have := hF.q256; omega
      clear t2 m0 x2 r2 s2 l2; generalize (R1.getD i []).getD k 0 = en at *; generalize P1.getD i 0 = y at *; unfold maxLen at f4; unfold iv at v1; subst b4; subst y3; go_upto_region 16 with (go_at_call 66; refine v1.mono ?_; rintro e w' ⟨rfl, j, rfl⟩; obtain ⟨k2, m2⟩ := n3 j)
      have s3 : Hid (OwnN ((wr.drewN j).setCell ⟨wo.heap.size, y, none⟩ (.int .i64 ((F.neg en : Nat) : Int))) wo.heap.size (sQ wo.heap.size) m m (Bh F.fld R1 P1 m k (i + 1))) := sK (by
       rw [q3.out]; exact (b1.below (Ae (bR) j)).set y l0)
      have j3 : Hid (From wo ((wr.drewN j).setCell ⟨wo.heap.size, y, none⟩ (.int .i64 ((F.neg en : Nat) : Int)))) := sK ((Ae z0 j).setCell (p := ⟨wo.heap.size, y, none⟩) (qb _) _); go_wp2; go_roundw
      case rel => exact ⟨i + 1, by omega, by go_num, s3.out, j3.out⟩
      case measure => simp [intOf]; omega
     ·obtain rfl : i = L := by omega
      have l0 : (Bh F.fld R1 P1 m k i).length = m := Cs _ _ _ _; have v3 := sK ((g0.below z0.out).below (Ac wr (.cells #[.slice (sQ wo.heap.size) m m] 22))); have m3 : Hid ((wr.alloc (.cells #[.slice (sQ wo.heap.size) m m] 22)).cell? ⟨wr.heap.size, 0, none⟩ = some (.slice (sQ wo.heap.size) (Bh F.fld R1 P1 m k i).length m)) := sK (by rw [l0]; go_simp); have x3 : Hid (RdN (wr.alloc (.cells #[.slice (sQ wo.heap.size) m m] 22)) (sQ wo.heap.size) (Bh F.fld R1 P1 m k i).length m (Bh F.fld R1 P1 m k i)) := sK (by rw [l0]; exact (b1.alloc _).rd); have i3 : Hid (∀ b g3, (some (⟨wo.heap.size, 0, none⟩ : Addr)) = some ⟨b, g3, none⟩ -> 0 < (Bh F.fld R1 P1 m k i).length -> (Value.slice Ao no co).ownBlock ≠ some b) := sK fun b g3 e _ e2 => by
       obtain ⟨j5, h8, _⟩ := g0.own; have := (h8.lt b e2).2; simp only [qc, qd] at e; omega
      have o1 : Hid (From w3 (wr.alloc (.cells #[.slice (sQ wo.heap.size) m m] 22))) := sK (Below.alloc f0 f0.size _); have r3 : Hid (∀ b, (Value.slice Ao no co).ownBlock = some b -> w3.heap.size <= b) := sK fun b e2 => by
       obtain ⟨j5, h8, _⟩ := g0.own; exact (h8.lt b e2).1
      clear l0; go_wp2_with (at_builtin; refine Ha rfl (.tmp 69) (.tmp 71) 25 rfl i1 Tryz.underlying25 l4 u4 y4 a5 w3.heap.size Ao no co _ rfl v3 wr.heap.size rfl _ _ _ m3 x3 i3 (by omega) (by simp; omega) ?_; intro A2 c2 w6 g2 n2); have u3 := sK g2; have o3 := sK (qac (B := w3.heap.size) o1 n2 o1.size (fun k9 m4 => r3 k9 m4)); clear g2 n2; go_wp2; go_roundw
      case rel => exact ⟨k + 1, no + 1, c2, A2, by omega, by go_num, rfl, by omega, by rw [HN.out, HL.out]; exact u3.out, o3.out⟩
      case measure => simp [intOf]; omega
  ·obtain rfl : k = m := by omega
   have j2 := r1 wr b (t1.below e0.out) Ao no co (by omega) g0.rd; have k3 := sK j2; have q1 := sK (qcz o0 (qf e0 d3)); clear j2; go_upto_region 20 with (go_at_call 64; refine k3.mono ?_; rintro e w7 ⟨g7, P7, d6, rfl, c4, m5, e4⟩)
   have b5 : W.heap.size <= wr.heap.size := q1.size; have d0 : From W w7 := qcz q1 (e4.mono b5); have u2 := (d0.cell (p := ⟨w.heap.size + 1, 0, none⟩) (by simp only; omega)).trans k1; have v4 := (d0.cell (p := ⟨w.heap.size + 1 + 1, 0, none⟩) (by simp only; omega)).trans t4; have z4 := (d0.cell (p := ⟨w.heap.size + 1 + 1, 1, none⟩) (by simp only; omega)).trans x4; have b6 := (d0.frozen (p := ⟨w.heap.size + 1 + 1, 0, none⟩) (by simp only; omega)).trans h5; have c6 := (d0.frozen (p := ⟨w.heap.size + 1 + 1, 1, none⟩) (by simp only; omega)).trans i5; have d4 : Below w.heap.size w w7 := f1.trans (qf d0 (by omega)); go_wp2; have r4 : ∀ x, ((w7.setCell ⟨w.heap.size + 1 + 1, 0, none⟩ (nQ k)).setCell ⟨w.heap.size + 1 + 1, 1, none⟩ x).cell? ⟨w.heap.size + 1 + 1, 0, none⟩ = some (nQ k) := fun x => by
    rw [qbc _ _ _ _ (by intro h; simp at h), qaw _ _ _ v4]
   have s4 : ∀ x, ((w7.setCell ⟨w.heap.size + 1 + 1, 0, none⟩ (nQ k)).setCell ⟨w.heap.size + 1 + 1, 1, none⟩ x).cell? ⟨w.heap.size + 1 + 1, 1, none⟩ = some x := fun x => by
    exact qaw _ _ _ (h := by rw [qbc _ _ _ _ (by intro h; simp at h)]; exact z4)
   refine bodyPost_ret (v := .tuple #[matV k (sQ g7) h3.2.length h3.2.length, zQ]) (by simp [results, Tryz.results26, go_sem, r4, s4, matV]) rfl ⟨g7, rfl, ?_, ?_⟩
   ·exact ((c4.set (by omega) _ _).set (by omega) _ _).mono (by omega)
   ·exact (d4.setCell (p := ⟨w.heap.size + 1 + 1, 0, none⟩) (by simp only; omega) _).setCell (p := ⟨w.heap.size + 1 + 1, 1, none⟩) (by simp only; omega) _
theorem Wv {α : Type} (d : α) {l k : List α} (h : l.length = k.length) (he : ∀ j, j < l.length -> l.getD j d = k.getD j d) : l = k := by
 apply Tq h
 intro j h1 h2
 have := he j h1
 rw [qa, qh h1, qa, qh h2] at this
 exact this
theorem eF (w : WQ) (A B : OQ) (n m c d : Nat) (l k : NQ) (hl : RdN w A n c l) (hk : RdN w B m d k) : cQ 163 #[.slice A n c, .slice B m d] w (Ah (.bool (decide (l = k))) w) := by
 have x0 := hl.le63
 have b0 := hl.len
 have a0 := hk.len
 by_cases hnm : n = m
 ·subst hnm
  have HL := sK hl; have HK := sK hk; have h0 := sK b0; have m0 := sK a0; have t0 := hl.cap; have v0 := hk.cap; clear hl hk b0 a0; go_enter Tryz.func163, Tryz.ntmps163; go_wp2
  go_loopw [13] (fun g0 wr => ∃ i, i <= n ∧ g0 = nQ i ∧ From w wr ∧ ∀ j, j < i -> l.getD j 0 = k.getD j 0) (fun g0 _ => n - (intOf g0).toNat)
  case atStart => exact ⟨0, qe _, rfl, From.refl _, fun j hj => by omega⟩
  case round =>
   obtain ⟨i, hi, rfl, hb, hz⟩ := hrel; have HZ := sK hz; have HB := sK hb; clear hz hb
   by_cases hin : i < n
   ·have w0 : (i : Int) < (n : Int) := by omega
    obtain ⟨ab, ao, hA, _, o0⟩ := (HL.below HB.out).at hin; obtain ⟨bb, bo, hB, _, q0⟩ := (HK.below HB.out).at hin; subst hA; subst hB; have c0 : Hid (∀ wx, From wr wx -> wx.cell? ⟨ab, ao + i, none⟩ = some (.int .i64 ((l.getD i 0 : Nat) : Int))) := sK fun wx hx => (HL.below (Aa hx HB.out)).cellAt hin
    have d0 : Hid (∀ wx, From wr wx -> wx.cell? ⟨bb, bo + i, none⟩ = some (.int .i64 ((k.getD i 0 : Nat) : Int))) := sK fun wx hx => (HK.below (Aa hx HB.out)).cellAt hin
    obtain ⟨y, hy⟩ := xQ (l.getD i 0); obtain ⟨z, hz⟩ := xQ (k.getD i 0); rw [<- hy] at c0; rw [<- hz] at d0; have HY := sK hy; have i0 := sK hz; clear o0 q0 hy hz; have j0 : From wr wr := From.refl wr; go_upto_region 6 with fail
    by_cases hyz : y = z
    ·have r0 : ((y : Int) != (z : Int)) = false := by simp [hyz]
     have n0 := sK hyz; clear hyz; refine wpT 9 26 [.v (.slice (some ⟨ab, ao, none⟩) n c), .v (nQ i), .v (.pointer (some ⟨ab, ao + i, none⟩)), .v (nQ y), .v (.slice (some ⟨bb, bo, none⟩) n d), .v (nQ i), .v (.pointer (some ⟨bb, bo + i, none⟩)), .v (nQ z), .v (.bool false)] wr (by kernel_rfl) (by kernel_rfl) (by kernel_rfl) rfl (From.drew j0) ?_; simp only [Tk]
     iterate 9 (refine .z (fun wx hx _ hK => by first | (go_simp; exact Kz hK) | (have hc := c0 wx hx; go_simp; exact Kz hK) | (have hc := d0 wx hx; go_simp; exact Kz hK)) ?_; simp only [Pt])
     refine .nil fun w5 f0 _ => ?_
     have HN : Hid (∀ j, j < i + 1 -> l.getD j 0 = k.getD j 0) := sK fun j hj => by
      by_cases hji : j = i
      ·rw [hji, <- HY.out, <- i0.out]; exact n0.out
      ·exact HZ j (by omega)
     go_wp2; go_roundw
     case rel => exact ⟨i + 1, by omega, by go_num, Aa f0 HB.out, HN.out⟩
     case measure => simp [intOf]; omega
    ·have r0 : ((y : Int) != (z : Int)) = true := by simp; omega
     have e0 : Hid (decide (l = k) = false) := sK (by
      refine decide_eq_false fun e => hyz ?_
      rw [HY.out, i0.out, e])
     refine wpT 9 26 [.v (.slice (some ⟨ab, ao, none⟩) n c), .v (nQ i), .v (.pointer (some ⟨ab, ao + i, none⟩)), .v (nQ y), .v (.slice (some ⟨bb, bo, none⟩) n d), .v (nQ i), .v (.pointer (some ⟨bb, bo + i, none⟩)), .v (nQ z), .v (.bool true)] wr (by kernel_rfl) (by kernel_rfl) (by kernel_rfl) rfl (From.drew j0) ?_; simp only [Tk]
     iterate 9 (refine .z (fun wx hx _ hK => by first | (go_simp; exact Kz hK) | (have hc := c0 wx hx; go_simp; exact Kz hK) | (have hc := d0 wx hx; go_simp; exact Kz hK)) ?_; simp only [Pt])
     refine .nil fun w5 f0 _ => ?_
     go_wp2; go_ret; exact ⟨by rw [e0.out]; rfl, Aa f0 HB.out⟩
   ·obtain rfl : i = n := by omega
    have l0 : Hid (decide (l = k) = true) := sK (decide_eq_true (Wv 0 (by rw [h0.out, m0.out]) fun j hj => HZ j (by rw [<- h0.out]; exact hj))); go_wp2; go_ret; exact ⟨by rw [l0.out]; rfl, HB.out⟩
 ·have hb : ((n : Int) != (m : Int)) = true := by simp; omega
  have e0 : Hid (decide (l = k) = false) := sK (by
   refine decide_eq_false fun e => hnm ?_
   rw [<- b0, <- a0, e])
  clear b0 a0 hl hk hnm; go_enter Tryz.func163, Tryz.ntmps163; go_wp2; go_ret; exact ⟨by rw [e0.out]; rfl, bR⟩
theorem Qt (w : WQ) (A B : OQ) (n m c d : Nat) (R S : LQ) (hl : RdM w A n c R) (hk : RdM w B m d S) : cQ 162 #[.slice A n c, .slice B m d, .func (Fn.func 163) #[] #[]] w (Ah (.bool (decide (R = S))) w) := by
 have y0 := hl.le63
 have d0 := hl.len
 have c0 := hk.len
 by_cases hnm : n = m
 ·subst hnm
  have HL := sK hl; have HK := sK hk; have j0 := sK d0; have n0 := sK c0; have v0 := hl.cap; have w0 := hk.cap; clear hl hk d0 c0; go_enter Tryz.func162, Tryz.ntmps162; go_wp2
  go_loopw [17] (fun i0 wr => ∃ i, i <= n ∧ i0 = nQ i ∧ From w wr ∧ ∀ j, j < i -> R.getD j [] = S.getD j []) (fun i0 _ => n - (intOf i0).toNat)
  case atStart => exact ⟨0, qe _, rfl, From.refl _, fun j hj => by omega⟩
  case round =>
   obtain ⟨i, hi, rfl, hb, hz⟩ := hrel; have HZ := sK hz; have HB := sK hb; clear hz hb
   by_cases hin : i < n
   ·have x0 : (i : Int) < (n : Int) := by omega
    obtain ⟨ab, ao, Ai, ai, hA, r0, o0, g0⟩ := (HL.below HB.out).at hin; obtain ⟨bb, bo, Bi, bi, hB, t0, q0, h0⟩ := (HK.below HB.out).at hin; subst hA; subst hB; have m0 := eF wr Ai Bi _ _ ai bi _ _ g0 h0; have a0 := sK m0; obtain ⟨y, hy⟩ := xQ (R.getD i []); obtain ⟨z, hz⟩ := xQ (S.getD i []); rw [<- hy] at a0 o0 g0; rw [<- hz] at a0 q0 h0; have HY := sK hy; have l0 := sK hz; clear hy hz m0 g0 h0; generalize y.length = yl at *; generalize z.length = zl at *
    by_cases hyz : y = z
    ·rw [decide_eq_true hyz] at a0
     have HN : Hid (∀ j, j < i + 1 -> R.getD j [] = S.getD j []) := sK fun j hj => by
      by_cases hji : j = i
      ·rw [hji, <- HY.out, <- l0.out]; exact hyz
      ·exact HZ j (by omega)
     clear hyz; go_wp2_with (go_at_call 163; refine a0.mono ?_; rintro e w5 ⟨rfl, b0⟩); have e0 := sK b0; clear b0; go_wp2; go_roundw
     case rel => exact ⟨i + 1, by omega, by go_num, Aa e0 HB.out, HN.out⟩
     case measure => simp [intOf]; omega
    ·rw [decide_eq_false hyz] at a0
     have f0 : Hid (decide (R = S) = false) := sK (by
      refine decide_eq_false fun e => hyz ?_
      rw [HY.out, l0.out, e])
     clear hyz; go_wp2_with (go_at_call 163; refine a0.mono ?_; rintro e w5 ⟨rfl, b0⟩); have e0 := sK b0; clear b0; go_wp2; go_ret; exact ⟨by rw [f0.out]; rfl, Aa e0 HB.out⟩
   ·obtain rfl : i = n := by omega
    have a0 : Hid (decide (R = S) = true) := sK (decide_eq_true (Wv [] (by rw [j0.out, n0.out]) fun j hj => HZ j (by rw [<- j0.out]; exact hj))); go_wp2; go_ret; exact ⟨by rw [a0.out]; rfl, HB.out⟩
 ·have hb : ((n : Int) != (m : Int)) = true := by simp; omega
  have f0 : Hid (decide (R = S) = false) := sK (by
   refine decide_eq_false fun e => hnm ?_
   rw [<- d0, <- c0, e])
  clear d0 c0 hl hk hnm; go_enter Tryz.func162, Tryz.ntmps162; go_wp2; go_ret; exact ⟨by rw [f0.out]; rfl, bR⟩
def Blk (w : WQ) (b : Nat) (cs : Array Value) : Prop := ∃ t, w.heap[b]? = some (.cells cs t (0, 0))
section
variable {w w' : WQ} {b : Nat} {cs : Array Value}
theorem Blk.new (w : WQ) (cs : Array Value) (t : TypeId) : Blk (w.alloc (.cells cs t)) w.heap.size cs := ⟨t, (MapKept.heap_alloc w _).1⟩
theorem Blk.lt (h : Blk w b cs) : b < w.heap.size := by
 obtain ⟨t, h⟩ := h
 rcases Nq b w.heap.size with hlt | hge
 ·exact hlt
 ·rw [qck hge] at h; cases h
theorem Blk.keep (h : Blk w b cs) {B : Nat} (hb : Below B w w') (hB : b < B) : Blk w' b cs := by
 obtain ⟨t, h⟩ := h
 exact ⟨t, (hb.block b hB).trans h⟩
theorem Blk.below (h : Blk w b cs) (hb : Below w.heap.size w w') : Blk w' b cs := h.keep hb h.lt
theorem Blk.alloc (h : Blk w b cs) (o : Obj) : Blk (w.alloc o) b cs := h.below (Ac w o)
theorem Blk.kept (h : Blk w b cs) {r : Option Nat} (hg : w.grownBy w' r) (hne : r ≠ some b) : Blk w' b cs := by
 have hl := h.lt
 obtain ⟨t, h⟩ := h
 exact ⟨t, (hg.block b hl (fun e => hne e.symm)).trans h⟩
theorem Blk.cell (h : Blk w b cs) {i : Nat} (hi : i < cs.size) : w.cell? ⟨b, i, none⟩ = some cs[i] := by
 obtain ⟨t, h⟩ := h
 rw [cell_of_row w b i cs t (0, 0) h, qau hi]
theorem Blk.free (h : Blk w b cs) (i : Nat) : w.frozen? ⟨b, i, none⟩ = false := by
 obtain ⟨t, h⟩ := h
 exact frozen_of_row w b i cs t h
theorem Blk.set (h : Blk w b cs) (i : Nat) (v : Value) : Blk (w.setCell ⟨b, i, none⟩ v) b (cs.setIfInBounds i v) := by
 obtain ⟨t, h⟩ := h
 exact ⟨t, heap_setCell_same w b i cs t v h⟩
end
end Go.Proofs.YtoalkldfhkabnaaGreatDoor
