/- Part of WholeTraces. -/
import Derived.Sort.CutIn
import Derived.Test.YtoalkldfhkabnaaGreatDoorW00
import Derived.Test.YtoalkldfhkabnaaGreatDoorW17
set_option linter.all false
set_option maxRecDepth 10000
set_option maxHeartbeats 16000000
namespace Go.Proofs.YtoalkldfhkabnaaGreatDoor
open Go.RowKit Fq
section
open Go.RowKit Go.Shelf Fq
attribute [local go_sem] Oper.semAt_some
def Db (F : FD) (l : NQ) (xs : NQ) : NQ := xs.filter fun x => horn F l l.length x l.length == 0
def Fk (F : FD) (l : NQ) : NQ := Db F l (List.range F.q)
def pv {q : Nat} (pre : List (Fin q)) : NQ := pre.map fun x => x.1
theorem qW {q : Nat} (pre : List (Fin q)) : (pv pre).length = pre.length := by simp [pv]
theorem eU {F : FD} {l : NQ} (pre : List (Fin F.q)) {x : Fin F.q} (h : horn F l l.length x.1 l.length = 0) : Db F l (pv (pre ++ [x])) = Db F l (pv pre) ++ [x.1] := by
 unfold Db pv
 rw [qam, List.filter_append]
 simp [h]
theorem aE {F : FD} {l : NQ} (pre : List (Fin F.q)) {x : Fin F.q} (h : horn F l l.length x.1 l.length ≠ 0) : Db F l (pv (pre ++ [x])) = Db F l (pv pre) := by
 unfold Db pv
 rw [qam, List.filter_append]
 simp [h]
theorem Qs {w : WQ} {base : Nat} {e : TypeId} {size : Nat} {v : Value} {n : Nat} {xs : VQ} (h : w.ownsRow base e size v n xs) : ∃ A c, v = .slice A n c := by
 rcases h.2 with ⟨rfl, rfl⟩ | ⟨g, cap, cur, rfl, _⟩
 ·exact ⟨none, 0, rfl⟩
 ·exact ⟨_, cap, rfl⟩
def Wi (l : NQ) (w : WQ) (e : Ending) (w' : WQ) : Prop :=
 ∃ A c, e = .returned (.tuple #[.slice A l.length c, zQ]) ∧ OwnN w' w.heap.size A l.length c l ∧ Below w.heap.size w w'
theorem Ii {W W' : WQ} (h : From W W') (B : Nat) : KeepsFrom B W W' := (KeepsOthers.of_grownBy (Aw h none) (fun j o e _ => by cases e)).from B
set_option maxRecDepth 100000 in
theorem fC (w : WQ) (b : Nat) (F : FD) (hG : GFat w b F) (A : OQ) (n c : Nat) (l : NQ) (hr : RdN w A n c l) (hl : Els F l) (hn : n <= 9) (h0 : 0 < n) (ht : tlen l n = n) :
  cQ 107 #[pQ b, .slice A n c] w (Wi (Fk F l) w) := by
 obtain ⟨i0, hi, z1, a2, d2⟩ := info_parts Bj
 have n1 := hG.bd
 have t0 := hr.len
 have r0 := sK fun (wx : WQ) (h9 : From w wx) => Za wx b F (hG.below h9) A n c l (hr.below h9) hl (by omega)
 have c1 := sK fun (wx : WQ) (h9 : From w wx) (A' : OQ) (c' : Nat) (t1 : RdN wx A' n c' l) (x : Fin F.q) => nS wx b F (hG.below h9) A' n c' l t1 hl x.1 x.2
 have HQ := sK fun (wx : WQ) (h9 : From w wx) => (hG.below h9).cq
 have h2 := hG.lt
 unfold Yg at r0
 rw [t0, ht, qq (by omega)] at r0
 have g2 : ((n : Int) == 0) = false := by rw [beq_eq_false_iff_ne]; omega
 unfold iv at *
 refine (callsIn_wide (n := 6)).1 ?_
 have h1 : 1 <= 6 := by omega
 refine callsIn_of_wp_marks Tryz.func107 rfl trivial ?_ rfl
 simp only [Tryz.ntmps107, List.size_toArray, qan, List.length_nil, Nat.reduceAdd, Nat.reduceSub, qcw, qcx, List.push_toArray, qdc, qbp, qba]
 clear hG hr hl
 gi_wp2_with (first | (refine ⟨trivial, ?_⟩; gi_at_call 165; refine (callsIn_wide.2 (r0 _ (Ac _ _))).mono ?_; rintro e w2 ⟨A2, c2, rfl, m0, d0⟩; have w0 : w2.cell? ⟨w.heap.size, 0, none⟩ = some (pQ b) := (d0.cell (p := ⟨w.heap.size, 0, none⟩) (by simp)).trans (by go_simp); have z0 : w.heap.size < w2.heap.size := by (have := d0.size; simp at this; omega)) | (refine ⟨trivial, ?_⟩; gi_at_call 112; refine (Nh Fence.wide _ trivial rfl _ _).mono ?_; rintro e w' ⟨rfl, rfl⟩))
 have q0 := sK (Aa d0 (Ac _ _))
 have e1 := sK m0
 have d1 := sK w0
 obtain ⟨s2, b0⟩ : ∃ s, s = w2.heap.size := ⟨_, rfl⟩
 obtain ⟨W0, c0⟩ : ∃ W, W = ((w2.alloc (.cells #[.slice A2 n c2] 22)).alloc (.cells #[eQ] 22)).alloc (.cells #[pQ b] 56) := ⟨_, rfl⟩
 have f2 : W0.heap.size = s2 + 3 := by rw [c0, b0]; simp
 have v0 : Below s2 w2 W0 := by rw [c0, b0]; exact (((Below.refl _ w2).alloc (qb _) _).alloc (by simp) _).alloc (by simp; omega) _
 have bC : Boxed W0 s2 22 (.slice A2 n c2) := by rw [c0, b0]; exact ((Boxed.new w2 22 _).alloc _).alloc _
 have bO : Boxed W0 (s2 + 1) 22 (eQ) := by
  have h9 := Boxed.new (w2.alloc (.cells #[.slice A2 n c2] 22)) 22 (eQ); rw [qi, <- b0] at h9; rw [c0]; exact h9.alloc _
 have bG : Boxed W0 (s2 + 1 + 1) 56 (pQ b) := by
  have h9 := Boxed.new ((w2.alloc (.cells #[.slice A2 n c2] 22)).alloc (.cells #[eQ] 22)) 56 (pQ b); rw [qi, qi, <- b0] at h9; rw [c0]; exact h9
 have n0 : w.heap.size <= s2 := by omega
 have s1 : W0.cell? ⟨b, 3, none⟩ = some (nQ F.q) := HQ W0 (q0.trans (v0.mono n0))
 rw [<- c0, <- b0]
 rw [<- b0] at z0
 have f1 := sK b0
 have v1 : s2 <= w2.heap.size := by omega
 clear c0 d0 m0 w0 b0
 refine wpIn_rangeFunc_ownG rfl h1 (gf := 168) (lb := #[pQ (s2 + 1 + 1)]) rfl trivial (enters_of Tryz.func168 (by kernel_rfl) rfl)
  (Iz Fence.wide (6 - 1) trivial rfl (by omega) (s2 + 1 + 1) b s2 F.q n1.2.1 W0 (by omega) (by omega) bG.cell s1) belowK_t (belowK_b (by omega)) (bR) (fun _ => rfl)
  (fun pre W => (∃ v, Boxed W (s2 + 1) 22 v ∧ W.ownsRow s2 3 1 v (Db F l (pv pre)).length (ivs (Db F l (pv pre))) ∧ True) ∧ Boxed W s2 22 (.slice A2 n c2) ∧ Below s2 w2 W)
  (fun _ _ _ => False)
  (OwnFrom.and (Own.from (holdsRow_own s2 (s2 + 1) 22 3 1 (fun pre => (Db F l (pv pre)).length) (fun pre => ivs (Db F l (pv pre))) (fun _ _ => True)) _) (OwnFrom.and (Own.from (boxed_own _ _ _) _) (ownFrom_below v1 (by omega))))
  (fun _ _ _ _ _ hs _ _ => hs)
  ⟨⟨_, bO, Rq _ _ _ _, trivial⟩, bC, v0⟩
  (fun x => { tmps := #[pQ b, .slice A n c, pQ w.heap.size, undef, eQ, zQ, pQ s2, pQ (s2 + 1), .int .i64 ((x.1 : Nat) : Int), pQ b, .slice A n c, .slice A2 n c2, .slice A2 n c2, nQ n, .bool false, pQ b, .func (.func 168) #[] #[pQ (s2 + 1 + 1)], .int .i64 ((x.1 : Nat) : Int), undef, undef, undef, undef, undef, undef, undef, undef, undef, undef], defers := [] }) ?assign ?body ?done ?stop
 case assign =>
  intro l x W K hK
  gi_wp2
  exact hK
 case body =>
  rintro l' pre x W ⟨⟨v, hv, e0, _⟩, o0, hB⟩ m2; have hc := hv.cell; have j2 := o0.cell; have m1 : From w W := q0.trans (hB.mono n0); have k2 : W.cell? ⟨w.heap.size, 0, none⟩ = some (pQ b) := (hB.cell (p := ⟨w.heap.size, 0, none⟩) z0).trans d1.out; have u1 : RdN W A2 n c2 l := e1.keep hB (by rw [f1.out]; exact qb _); have H8 := sK (c1 W m1 A2 c2 u1 x); have n2 : (Db F l (pv pre)).length <= pre.length := by rw [<- qW pre]; exact qbr _ _
  have HB := sK hB; have o2 : s2 + 1 < W.heap.size := hv.lt
  by_cases hx : horn F l n x.1 n = 0
  ·have y1 : (((horn F l n x.1 n : Nat) : Int) == 0) = true := by rw [hx]; rfl
   have HH := sK (eU (l := l) pre (x := x) (by rw [t0]; exact hx)); have p2 : x.1 < 1000000 := by have := x.2; omega
   have a1 : ivs (Db F l (pv pre)) ++ [.int .i64 ((x.1 : Nat) : Int)] = ivs (Db F l (pv pre) ++ [x.1]) := by simp [ivs, iv]
   have g1 := sK a1; clear hx a1 hB; generalize horn F l n x.1 n = y at *; generalize Db F l (pv pre) = R at *
   gi_wp2_with (first | (refine ⟨trivial, ?_⟩; gi_at_call 166; refine (CallsIn.inRound l' (callsIn_wide.2 H8.out)).mono ?_; rintro e W1 ⟨rfl, a0⟩; have j0 := hv.kept (Aw a0 none) (by simp); have g0 := Ag e0 a0 (qb _); have o1 := j0.cell; have l0 := o0.kept (Aw a0 none) (by simp)) | (gi_at_builtin; refine wpListIn_append_own _ rfl _ _ 22 rfl s2 3 i0 (zQ) 1 8 Tryz.underlying22 hi z1 a2 d2 rfl (by decide) _ _ _ rfl (g0.alloc _) ⟨W1.heap.size, 0, none⟩ 1 1 [.int .i64 ((x.1 : Nat) : Int)] rfl rfl (cell_one_new _ _ _) (by simp [Value.oneCell']) (by unfold maxLen; omega) (by omega) (by have := a0.size; simp; omega) ?_; intro v' w1 y0 x0 _; obtain ⟨g', e2, rfl⟩ := ownsRow_succ y0; obtain ⟨b1, x1, m0, q1, d0⟩ := j0.appended (by decide) g0 (by have := a0.size; omega) (by omega) y0 x0; have i2 := b1.cell; have l2 := b1.frozen))
   have j1 := (l0.alloc (.cells #[.int .i64 ((x.1 : Nat) : Int)] 3)).kept x0 (l0.not_row (by decide) g0); have f0 := a0.mono (show s2 <= W.heap.size by omega); refine ⟨(Ii a0 _).trans (q1.from _), f0.trans d0, ⟨_, x1, ?_, trivial⟩, j1.other (by omega) _, HB.trans (f0.trans d0)⟩; rw [HH.out, <- g1.out]; simpa using m0
  ·have y1 : (((horn F l n x.1 n : Nat) : Int) == 0) = false := by rw [beq_eq_false_iff_ne]; omega
   have HH := sK (aE (l := l) pre (x := x) (by rw [t0]; exact hx)); clear hx; generalize horn F l n x.1 n = y at *
   gi_wp2_with (first | (refine ⟨trivial, ?_⟩; gi_at_call 166; refine (CallsIn.inRound l' (callsIn_wide.2 H8.out)).mono ?_; rintro e W1 ⟨rfl, a0⟩; have j0 := hv.kept (Aw a0 none) (by simp); have g0 := Ag e0 a0 (qb _); have o1 := j0.cell; have l0 := o0.kept (Aw a0 none) (by simp)))
   have f0 := a0.mono (show s2 <= W.heap.size by omega); exact ⟨Ii a0 _, f0, ⟨v, j0, by rw [HH.out]; exact g0, trivial⟩, l0, HB.trans f0⟩
 case done =>
  rintro D ys W hD rfl ⟨⟨v, hv, e0, _⟩, o0, hB⟩ hK; have hc := hv.cell; have r1 : pv (Cy F.q F.q) = List.range F.q := Qa F.q F.q (qb _); rw [r1] at e0; obtain ⟨A9, c9, rfl⟩ := Qs e0; have l1 : Sm (Fk F l) := fun x hx => by
   have := Wq.1 ((List.mem_filter.1 hx).1); omega
  have k1 := ownsRow_putObj e0 (.deferred none) hK rfl; have i1 := (q0.trans (hB.mono n0)).trans (belowK_b (w := w) (qb _) W D _ (.deferred none) (by omega) hK rfl rfl)
  gi_wp2
  refine ⟨by simp, .inl ⟨_, _, rfl, run_takeDeferred hK, ?_⟩⟩; exact ⟨.tuple #[.slice A9 (Fk F l).length c9, zQ], by simp [results, Tryz.f107, go_sem, Fk], A9, c9, rfl, OwnN.mono ⟨k1, l1⟩ n0, i1⟩
 case stop =>
  rintro D c pre W _ _ h _; exact h.elim
end
section
open Go.RowKit Go.Shelf Fq
attribute [local go_sem] Oper.semAt_some
def nrmF (F : FD) (d : Nat) : Nat := ((List.range F.q).find? fun x => basB F (Bm F x d) d).getD 0
theorem Qj {p : Nat -> Bool} : ∀ n k, k < n -> p k = true -> (∀ y, y < k -> p y = false) -> (List.range n).find? p = some k
 | 0, k, h, _, _ => absurd h (by omega)
 | n + 1, k, h, hk, hl => by
  rw [qaj, List.find?_append]
  by_cases e : k < n
  ·rw [Qj n k e hk hl]; rfl
  ·have e2 : k = n := by omega
   have : (List.range n).find? p = none := by
    rw [List.find?_eq_none]; intro y hy; have := hl y (by have := Wq.1 hy; omega); simp [this]
   rw [this, e2]; simp [<- e2, hk]
theorem Rx {F : FD} (h : F.Ok) {d : Nat} (hd : (F.m + 1) % d = 0) (h0 : 0 < d) : nrmF F d < F.q ∧ basB F (Bm F (nrmF F d) d) d = true ∧ ∀ y, y < nrmF F d -> basB F (Bm F y d) d = false := by
 obtain ⟨x, hx, hn⟩ := Zr h hd h0
 rw [<- dX] at hn
 obtain ⟨k, ⟨x0, y0⟩, hl⟩ := Ot (Q := fun y => y < F.q ∧ basB F (Bm F y d) d = true) x ⟨hx, hn⟩
 have z0 : ∀ y, y < k -> basB F (Bm F y d) d = false := fun y hy => by
  have := hl y hy
  cases hb : basB F (Bm F y d) d with
  | false => rfl
  | true => exact absurd ⟨by omega, hb⟩ this
 have e : nrmF F d = k := by unfold nrmF; rw [Qj F.q k x0 y0 z0]; rfl
 rw [e]
 exact ⟨x0, y0, z0⟩
theorem Ki {q : Nat} (x : Fin q) : ∀ k, x.1 < k -> k <= q -> x ∈ Cy q k
 | k + 1, h, hk => by
  rw [Cy, dif_pos (by omega), qar]
  by_cases e : x.1 < k
  ·exact .inl (Ki x k e (by omega))
  ·refine .inr ?_
   have : x.1 = k := by omega
   simp [<- this]
def iK {q : Nat} (pre : List (Fin q)) : Nat := (pre.getLast?.map fun x => x.1).getD 0
theorem Pp {q : Nat} (pre : List (Fin q)) (x : Fin q) : iK (pre ++ [x]) = x.1 := by simp [iK]
def HitN (F : FD) (d : Nat) (pre : List (Fin F.q)) : Prop := ∃ q0 x, pre = q0 ++ [x] ∧ (∀ y ∈ q0, basB F (Bm F y.1 d) d = false) ∧ basB F (Bm F x.1 d) d = true
set_option maxRecDepth 100000 in
theorem Zf (w : WQ) (b : Nat) (F : FD) (hG : GFat w b F) (d : Nat) (hd0 : 0 < d) (hd : (F.m + 1) % d = 0) :
  cQ 56 #[pQ b, nQ d] w (Ah (.tuple #[iv (nrmF F d), zQ]) w) := by
 have t1 := hG.bd
 have b0 := hG.ok
 have u1 : d <= 8 := qs (qaz (by omega) (Vq hd)) (by omega)
 have n0 := sK (Rx b0 hd hd0)
 have r0 := sK fun (wx : WQ) (h9 : From w wx) => Ey wx b F (hG.below h9) d hd0 hd
 have l0 := sK fun (wx : WQ) (h9 : From w wx) (x : Fin F.q) => Lm wx b F (hG.below h9) x.1 x.2 d hd0 u1
 have t0 := sK fun (wx : WQ) (h9 : From w wx) (x : Fin F.q) (A : OQ) (c : Nat) (hr : RdN wx A ((F.m + 1) / d) c (Bm F x.1 d)) => Ue wx b F (hG.below h9) d hd0 hd A c _ hr (Lo b0 x.2)
 have HQ := sK fun (wx : WQ) (h9 : From w wx) => (hG.below h9).cq
 have k2 := hG.lt
 unfold RetN at l0
 unfold iv at *
 generalize nrmF F d = nx at *
 refine (callsIn_wide (n := 6)).1 ?_
 have h1 : 1 <= 6 := by omega
 refine callsIn_of_wp_marks Tryz.func56 rfl trivial ?_ rfl
 simp only [Tryz.ntmps56, List.size_toArray, qan, List.length_nil, Nat.reduceAdd, Nat.reduceSub, qcw, qcx, List.push_toArray, qdc, qbp, qba]
 clear hG hd b0
 have a1 : From w ((((w.alloc (.cells #[pQ b] 56)).alloc (.cells #[nQ d] 3)).alloc (.cells #[zQ] 3)).alloc (.cells #[zQ] 29)) := ((((Below.refl _ w).alloc (qb _) _).alloc (by simp) _).alloc (by simp; omega) _).alloc (by simp; omega) _
 have m0 := sK a1
 have c0 : ((((w.alloc (.cells #[pQ b] 56)).alloc (.cells #[nQ d] 3)).alloc (.cells #[zQ] 3)).alloc (.cells #[zQ] 29)).cell? ⟨w.heap.size, 0, none⟩ = some (pQ b) := by go_simp
 have bB : Boxed ((((w.alloc (.cells #[pQ b] 56)).alloc (.cells #[nQ d] 3)).alloc (.cells #[zQ] 3)).alloc (.cells #[zQ] 29)) w.heap.size 56 (pQ b) := (((Boxed.new w 56 _).alloc _).alloc _).alloc _
 have bD : Boxed ((((w.alloc (.cells #[pQ b] 56)).alloc (.cells #[nQ d] 3)).alloc (.cells #[zQ] 3)).alloc (.cells #[zQ] 29)) (w.heap.size + 1) 3 (nQ d) := by
  have h9 := Boxed.new (w.alloc (.cells #[pQ b] 56)) 3 (nQ d); rw [qi] at h9; exact (h9.alloc _).alloc _
 have bX : Boxed ((((w.alloc (.cells #[pQ b] 56)).alloc (.cells #[nQ d] 3)).alloc (.cells #[zQ] 3)).alloc (.cells #[zQ] 29)) (w.heap.size + 1 + 1) 3 (zQ) := by
  have h9 := Boxed.new ((w.alloc (.cells #[pQ b] 56)).alloc (.cells #[nQ d] 3)) 3 (zQ); rw [qi, qi] at h9; exact h9.alloc _
 have bE : Boxed ((((w.alloc (.cells #[pQ b] 56)).alloc (.cells #[nQ d] 3)).alloc (.cells #[zQ] 3)).alloc (.cells #[zQ] 29)) (w.heap.size + 1 + 1 + 1) 29 (zQ) := by
  have h9 := Boxed.new (((w.alloc (.cells #[pQ b] 56)).alloc (.cells #[nQ d] 3)).alloc (.cells #[zQ] 3)) 29 (zQ); rw [qi, qi, qi] at h9; exact h9
 have f1 : ((((w.alloc (.cells #[pQ b] 56)).alloc (.cells #[nQ d] 3)).alloc (.cells #[zQ] 3)).alloc (.cells #[zQ] 29)).heap.size = w.heap.size + 4 := by simp
 gi_upto_region 1 with fail
 obtain ⟨W1, w0⟩ : ∃ W, W = ((((w.alloc (.cells #[pQ b] 56)).alloc (.cells #[nQ d] 3)).alloc (.cells #[zQ] 3)).alloc (.cells #[zQ] 29)) := ⟨_, rfl⟩
 rw [<- w0] at c0 bB bD bX bE f1 m0 ⊢
 have c1 := bD.cell
 have HD := sK bD
 have i1 := sK bB
 have HX := sK bX
 have HE := sK bE
 clear w0 a1 bB bD bX bE
 have j1 : Hid (w.heap.size < W1.heap.size) := sK (by omega)
 gi_wp2_with (first | (refine ⟨trivial, ?_⟩; gi_at_call 106; refine (callsIn_wide.2 (r0 _ m0.out)).mono ?_; rintro e w2 ⟨rfl, a0⟩; have z1 := a0.size; rw [f1] at z1; have v1 : w2.cell? ⟨w.heap.size, 0, none⟩ = some (pQ b) := (a0.cell (p := ⟨w.heap.size, 0, none⟩) j1.out).trans c0) | (refine ⟨trivial, ?_⟩; gi_at_call 112; refine (Nh Fence.wide _ trivial rfl _ _).mono ?_; rintro e w' ⟨rfl, rfl⟩))
 have f0 : ∀ {B : Nat} {t : TypeId} {v : Value}, Boxed W1 B t v -> Boxed (w2.alloc (.cells #[pQ b] 56)) B t v := fun h => (h.kept (Aw a0 none) (by simp)).alloc _
 have bB := f0 i1.out
 have bD := f0 HD.out
 have bX := f0 HX.out
 have bE := f0 HE.out
 have bG := Boxed.new w2 56 (pQ b)
 obtain ⟨W0, g0⟩ : ∃ W, W = w2.alloc (.cells #[pQ b] 56) := ⟨_, rfl⟩
 have v0 : From w W0 := by rw [g0]; exact (Aa a0 m0.out).alloc (by omega) _
 have j2 : W0.heap.size = w2.heap.size + 1 := by rw [g0]; simp
 rw [<- g0] at bB bD bX bE bG ⊢
 have d1 := HQ W0 v0
 generalize w2.heap.size = s2 at *
 clear g0 f0 v1 a0 c0 c1
 refine wpIn_rangeFunc_ownG rfl h1 (gf := 168) (lb := #[pQ s2]) rfl trivial (enters_of Tryz.func168 (by kernel_rfl) rfl)
  (Iz Fence.wide (6 - 1) trivial rfl (by omega) s2 b w.heap.size F.q t1.2.1 W0 (by omega) (by omega) bG.cell d1) belowK_t (belowK_b (by omega)) (bR) (fun _ => rfl)
  (fun pre W => (∀ y ∈ pre, basB F (Bm F y.1 d) d = false) ∧ Boxed W w.heap.size 56 (pQ b) ∧ Boxed W (w.heap.size + 1) 3 (nQ d) ∧ Boxed W (w.heap.size + 1 + 1) 3 (zQ) ∧ Boxed W (w.heap.size + 1 + 1 + 1) 29 (zQ) ∧ Below w.heap.size w W)
  (fun c pre W => (c = .ret ∧ HitN F d pre) ∧ Boxed W (w.heap.size + 1 + 1) 3 (.int .i64 ((iK pre : Nat) : Int)) ∧ Boxed W (w.heap.size + 1 + 1 + 1) 29 (zQ) ∧ Below w.heap.size w W)
  (OwnFrom.and (ownFrom_pure _ _) (OwnFrom.and (Own.from (boxed_own _ _ _) _) (OwnFrom.and (Own.from (boxed_own _ _ _) _) (OwnFrom.and (Own.from (boxed_own _ _ _) _) (OwnFrom.and (Own.from (boxed_own _ _ _) _) (ownFrom_below (qb _) (by omega)))))))
  (fun c => OwnFrom.and (ownFrom_pure _ _) (OwnFrom.and (Own.from (boxed_own _ _ _) _) (OwnFrom.and (Own.from (boxed_own _ _ _) _) (ownFrom_below (qb _) (by omega)))))
  ⟨(fun y hy => by cases hy), bB, bD, bX, bE, v0⟩
  (fun x => { tmps := #[pQ b, nQ d, pQ w.heap.size, pQ (w.heap.size + 1), pQ (w.heap.size + 1 + 1), pQ (w.heap.size + 1 + 1 + 1), .int .i64 ((x.1 : Nat) : Int), pQ b, nQ d, .bool true, .bool false, pQ b, .func (.func 168) #[] #[pQ s2], .int .i64 ((x.1 : Nat) : Int), undef, undef, undef, undef, undef, undef, undef, undef], defers := [] }) ?assign ?body ?done ?stop
 case assign =>
  intro l x W K hK
  gi_wp2
  exact hK
 case body =>
  rintro l' pre x W ⟨hp, hB, hD, hX, hE, hW⟩ r2; have l2 : 1 <= 6 - 1 - 1 := by omega
  have t2 : Tryz.prog.follows .mixedOrders = true := by kernel_rfl
  have cB := hB.cell; have cD := hD.cell; have H8 := sK (l0 W.drew (Ae hW 1) x); have H9 := sK (fun (wx : WQ) (h9 : From w wx) => t0 wx h9 x)
  gi_upto_region 5 with fail
  refine wpIn_mono (Q := fun ex a' W' => ex = .normal ∧ (∃ E' ce, a' = { tmps := #[pQ b, nQ d, pQ w.heap.size, pQ (w.heap.size + 1), pQ (w.heap.size + 1 + 1), pQ (w.heap.size + 1 + 1 + 1), .int .i64 ((x.1 : Nat) : Int), pQ b, nQ d, .bool true, .bool false, pQ b, .func (.func 168) #[] #[pQ s2], .int .i64 ((x.1 : Nat) : Int), pQ b, pQ b, .int .i64 ((x.1 : Nat) : Int), nQ d, .slice E' ((F.m + 1) / d) ce, nQ d, .bool (basB F (Bm F x.1 d) d), undef], defers := [] }) ∧ From W W') ?_ ?_
  ·generalize Bm F x.1 d = E at *
   generalize basB F E d = ok at *; clear r0 l0 HQ t0 n0 hE hX hp d1
   gi_region_with_o (first | (refine ⟨trivial, ?_⟩; gi_at_call 114; refine (CallsIn.inRound l' (callsIn_wide.2 H8.out)).mono ?_; rintro e W2 ⟨E', ce, rfl, ho, a0⟩; have i0 : From W W2 := Aa a0 (Ae (bR) 1); have a2 := (hB.kept (Aw i0 none) (by simp)).cell; have c2 := (hD.kept (Aw i0 none) (by simp)).cell) | (refine ⟨trivial, ?_⟩; gi_at_call 113; refine (CallsIn.inRound l' (callsIn_wide.2 (H9 W2 (Aa i0 hW) E' ce ho.rd))).mono ?_; rintro e W3 ⟨rfl, s1⟩))
   all_goals exact ⟨rfl, ⟨E', ce, rfl⟩, Aa s1 i0⟩
  ·rintro ex a' W3 ⟨rfl, ⟨E', ce, rfl⟩, h3⟩
   have j0 := Aw h3 none; have e0 := hX.kept j0 (by simp); have d0 := hE.kept j0 (by simp); have f2 := e0.cell; have h2 := e0.frozen; have d2 := d0.cell; have g2 := d0.frozen; have o0 := h3.mono hW.size; have p2 : w.heap.size <= W.heap.size := hW.size; have o2 := e0.lt; have m2 := d0.lt
   cases b0 : basB F (Bm F x.1 d) d with
   | true =>
    gi_wp2
    have l1 := e0.set (.int .i64 ((x.1 : Nat) : Int)); have k1 := (d0.other (B' := w.heap.size + 1 + 1) (by omega) (.int .i64 ((x.1 : Nat) : Int))).set (zQ); have m1 := l1.other (B' := w.heap.size + 1 + 1 + 1) (by omega) (zQ); refine ⟨(Ii h3 _).trans (((KeepsOthers.setCell _ _ _).trans (KeepsOthers.setCell _ _ _)).from _), ⟨rfl, pre, x, rfl, hp, b0⟩, by rw [Pp]; exact m1, k1, ?_⟩; exact ((hW.trans o0).setCell (p := ⟨w.heap.size + 1 + 1, 0, none⟩) (by simp; omega) _).setCell (p := ⟨w.heap.size + 1 + 1 + 1, 0, none⟩) (by simp; omega) _
   | false =>
    gi_wp2
    refine ⟨Ii h3 _, o0, fun y hy => ?_, hB.kept j0 (by simp), hD.kept j0 (by simp), e0, d0, hW.trans o0⟩
    rcases qar.1 hy with h | h
    ·exact hp y h
    ·rw [qbm.1 h]; exact b0
 case done =>
  rintro D ys W hD rfl ⟨hp, hB, i2, hX, hE, hW⟩ hK; obtain ⟨n1, n2, n3⟩ := n0.out; have := hp ⟨nx, n1⟩ (Ki ⟨nx, n1⟩ F.q n1 (qb _)); rw [n2] at this
  cases this
 case stop =>
  rintro D c pre W hD ⟨k, hk, rfl⟩ ⟨⟨rfl, q0, x, b1, x1, y1⟩, hX, hE, hW⟩ hK; obtain ⟨n1, n2, n3⟩ := n0.out; have g1 : Cy F.q (k + 1) = Cy F.q k ++ [⟨k, hk⟩] := by rw [Cy, dif_pos hk]
  rw [g1] at b1; obtain ⟨e1, e2⟩ := List.append_inj' b1 rfl; have e3 : (⟨k, hk⟩ : Fin F.q) = x := by simpa using e2
  subst e1 e3; have w1 : nx = k := by
   rcases Nat.lt_trichotomy nx k with h | h | h
   ·have := x1 ⟨nx, n1⟩ (Ki ⟨nx, n1⟩ k h (by omega))
    rw [n2] at this
    cases this
   ·exact h
   ·have := n3 k h
    rw [y1] at this
    cases this
  rw [g1, Pp] at hX; subst w1; have r1 := cell_kept hX.cell (grownBy_putObj' W D (.deferred none)) (fun r e => by cases e; exact ⟨_, hK, rfl⟩); have q1 := cell_kept hE.cell (grownBy_putObj' W D (.deferred none)) (fun r e => by cases e; exact ⟨_, hK, rfl⟩); have o1 := hW.trans (belowK_b (w := w) (qb _) W D _ (.deferred none) (by omega) hK rfl rfl)
  gi_wp2
  refine ⟨by simp, .inl ⟨_, _, rfl, run_takeDeferred hK, ?_⟩⟩; exact ⟨.tuple #[nQ nx, zQ], by simp [results, Tryz.f56, go_sem, r1, q1], rfl, o1⟩
end
theorem dJ {F : FD} (h : F.Ok) {l : NQ} (hl : Els F l) {x : Nat} (hx : x < F.q) : ∀ k, k <= l.length -> horn F l l.length x k = ev F x (l.drop (l.length - k))
 | 0, _ => by rw [Nat.sub_zero, List.drop_length]; rfl
 | k + 1, hk => by
  have hi : l.length - (k + 1) < l.length := by omega
  rw [horn, dJ h hl hx k (by omega), List.drop_eq_getElem_cons hi, show l.length - (k + 1) + 1 = l.length - k by omega, ev]; have e1 : l.getD (l.length - 1 - k) 0 = l[l.length - (k + 1)] := by
   rw [show l.length - 1 - k = l.length - (k + 1) by omega, qa, qh hi]; rfl
  rw [e1, h.mul_comm (h.ev_lt _ _) hx]; exact Cj _ _ _
def imgR (F S : FD) : Nat := (Fk F (modL S ++ [1])).getD 0 0
def imgL (F S : FD) : NQ := (List.range S.q).map (phi F S (imgR F S))
theorem Wf (F S : FD) : (imgL F S).length = S.q := by simp [imgL]
theorem Wu {F S : FD} (h : F.Ok) (hS : S.Ok) (hp : S.p = F.p) : Els F (modL S ++ [1]) := fun x hx => by
 have f0 := h.p_le_q
 have h1 := h.p1
 rcases qar.1 hx with h2 | h2
 ·have := Tx hS x h2
  omega
 ·rw [qbm.1 h2]; omega
theorem Rc {F S : FD} (h : F.Ok) (hS : S.Ok) (hp : S.p = F.p) (hd : (F.m + 1) % (S.m + 1) = 0) : Root F S (imgR F S) ∧ (S.m ≠ 0 -> 0 < (Fk F (modL S ++ [1])).length) := by
 have hq := h.q2
 have d0 := Wu h hS hp
 by_cases hm : S.m = 0
 ·have e1 : modL S = [] := by unfold modL; rw [if_pos hm]
  have e2 : imgR F S = 0 := by
   unfold imgR Fk Db; rw [e1]; have : (List.range F.q).filter (fun x => horn F ([] ++ [1]) ([] ++ [1] : NQ).length x ([] ++ [1] : NQ).length == 0) = [] := by
    rw [List.filter_eq_nil_iff]; intro x _; show ¬ (F.add (F.mul 0 x) 1 == 0) = true; rw [h.zero_mul]; have : F.add 0 1 = 1 := h.fldOk.zadd (show 1 < F.fld.q from by show 1 < F.q; omega); rw [this]; decide
   rw [this]; rfl
  refine ⟨?_, fun e => absurd hm e⟩; rw [e2]; refine ⟨by omega, hp, ?_⟩; rw [hm, hS.v0 hm]; simp only [digs, qba, qbp, ev, qcc]; rw [h.zero_mul]; exact h.fldOk.add0 0 h.fldOk.q0
 ·have e1 : modL S = digs S.p (S.m + 1) S.v := by unfold modL; rw [if_neg hm]
  obtain ⟨r, hr⟩ := Ou h hS hp hd; have key : ∀ x, x < F.q -> (x ∈ Fk F (modL S ++ [1]) ↔ ev F x (digs S.p (S.m + 1) S.v ++ [1]) = 0) := fun x hx => by
   unfold Fk Db; rw [List.mem_filter, Wq, beq_iff_eq, dJ h d0 hx _ (qb _), qaa, List.drop_zero, e1]; exact ⟨fun h9 => h9.2, fun h9 => ⟨hx, h9⟩⟩
  have e0 : r ∈ Fk F (modL S ++ [1]) := (key r hr.lt).2 hr.zero; have a0 : 0 < (Fk F (modL S ++ [1])).length := List.length_pos_of_mem e0; have c0 : imgR F S ∈ Fk F (modL S ++ [1]) := Ap a0 0; have b0 : imgR F S < F.q := Wq.1 (List.mem_filter.1 c0).1; exact ⟨⟨b0, hp, (key _ b0).1 c0⟩, fun _ => a0⟩
def powL (F : FD) (r n : Nat) : NQ := (List.range n).map (F.pw r)
theorem eS (F : FD) (r n : Nat) : powL F r (n + 1) = powL F r n ++ [F.pw r n] := by simp [powL, qaj]
theorem jF (F : FD) (r : Nat) {n i : Nat} (hi : i < n) : (powL F r n).getD i 0 = F.pw r i := by simp [powL, qa, hi]
theorem kN {F : FD} (h : F.Ok) (r n : Nat) : Els F (powL F r n) := fun x hx => by
 obtain ⟨i, _, rfl⟩ := qz.1 hx
 exact h.pw_lt _ _
theorem kL {F : FD} (h : F.Ok) {r : Nat} (hr : r < F.q) : ∀ (l : NQ) (k acc : Nat), Els F l -> acc < F.q -> (List.zipWith F.mul l ((List.range' k l.length).map (F.pw r))).foldl F.add acc = F.add acc (F.mul (F.pw r k) (ev F r l))
 | [], k, acc, _, ha => by
  show acc = F.add acc (F.mul (F.pw r k) 0); rw [h.mul_zero]; exact (h.fldOk.add0 acc ha).symm
 | c :: t, k, acc, hl, ha => by
  have hc := hl c (by simp); have hp := h.pw_lt r k; have hE := h.ev_lt r t; rw [qan, List.range'_succ, List.map_cons, List.zipWith_cons_cons, List.foldl_cons, kL h hr t (k + 1) _ (fun x hx => hl x (by simp [hx])) (h.add_lt _ _), ev]; have e1 : F.mul (F.pw r k) (F.add c (F.mul r (ev F r t))) = F.add (F.mul (F.pw r k) c) (F.mul (F.pw r k) (F.mul r (ev F r t))) := Fq.mul_add h.p1 _ _ _; have e2 : F.mul (F.pw r k) (F.mul r (ev F r t)) = F.mul (F.pw r (k + 1)) (ev F r t) := (h.mul_assoc hp hr hE).symm; rw [e1, e2, h.mul_comm hc hp]; exact h.fldOk.addA _ _ _ ha (h.mul_lt _ _) (h.mul_lt _ _)
theorem oM {F : FD} (h : F.Ok) {r : Nat} (hr : r < F.q) (l : NQ) (hl : Els F l) : dotL F l (powL F r l.length) = ev F r l := by
 have e := kL h hr l 0 0 hl (by have := h.q2; omega)
 unfold dotL sumL powL
 rw [List.range_eq_range', e, show F.pw r 0 = 1 from rfl, h.one_mul (h.ev_lt _ _)]
 exact h.fldOk.zadd (h.ev_lt _ _)
theorem oK {F S : FD} (h : F.Ok) (hS : S.Ok) (hp : S.p = F.p) {r : Nat} (hr : r < F.q) (x : Nat) : dotL F (digs S.p (S.m + 1) x) (powL F r (S.m + 1)) = phi F S r x := by
 have f0 := h.p_le_q
 have e := oM h hr (digs S.p (S.m + 1) x) (fun y hy => by have := Dy hS.p0 _ _ y hy; omega)
 rw [Cb] at e
 exact e
def Vt (B y : Nat) (v : Value) (w : WQ) : Prop := ∃ g, v = .slice (sQ g) 1 1 ∧ B <= g ∧ g < w.heap.size ∧ w.cell? ⟨g, 0, none⟩ = some (nQ y)
theorem Vt.lasting {B y : Nat} : ∀ v w w', Below w.heap.size w w' -> Vt B y v w -> Vt B y v w' := fun _ _ _ hb ⟨g, h1, h2, h3, h4⟩ => ⟨g, h1, h2, qk h3 hb.size, (hb.cell (p := ⟨g, 0, none⟩) h3).trans h4⟩
theorem kU {W w5 w6 : WQ} {A : OQ} {n c : Nat} {l : NQ} {o1 o2 : Obj} (g0 : Below (W.alloc o1).heap.size (W.alloc o1) w5) (r0 : OwnN w5 (W.alloc o1).heap.size A n c l) (c1 : (w5.alloc o2).grownBy w6 (Value.slice A n c).ownBlock) : From W w6 := by
 have h5 := g0.size
 rw [qi] at h5
 refine (((Ac W o1).trans (qf g0 (by simp))).alloc (by omega) o2).grown c1 (by simp; omega) fun k hk => ?_
 rcases r0.form with ⟨h1, _⟩ | ⟨g, h1, h2, _⟩
 ·subst h1; simp [Value.ownBlock] at hk
 ·subst h1
  simp [Value.ownBlock] at hk; rw [qi] at h2; omega
set_option maxRecDepth 20000 in
theorem eZ (w : WQ) (F S : FD) (b : Nat) (hG : GFat w b F) (hS : S.Ok) (hp : S.p = F.p) (hd : (F.m + 1) % (S.m + 1) = 0) (A : OQ) (c : Nat) (hmod : RdN w A (modL S).length c (modL S)) :
  cQ 55 #[Ax S A c, pQ b] w (Wl S.q (imgL F S) w) := by
 obtain ⟨i0, f1, i1, j1, k1⟩ := info_parts Bj
 have g1 := hG.ok
 have v5 := hG.bd
 have x5 := hS.bd
 obtain ⟨p3, g3⟩ := Rc g1 hS hp hd
 have e2 := Fp S
 have m0 := sK fun (wx : WQ) (h9 : From w wx) => Kv wx S hS A c (hmod.below h9)
 have s4 := sK fun (wx : WQ) (h9 : From w wx) => Jm wx b F (hG.below h9)
 have i2 := sK fun (wx : WQ) (h9 : From w wx) => Ey wx b F (hG.below h9) (S.m + 1) (by omega) hd
 unfold Ga at m0
 have e1 : Ax S A c = .agg #[nQ S.p, .int .i64 ((S.m + 1 : Nat) : Int), .slice A (modL S).length c] := rfl
 rw [e1] at m0 ⊢
 obtain ⟨m, hm⟩ := xQ ((modL S).length)
 obtain ⟨M, hM⟩ := xQ (S.m + 1)
 unfold Wl
 rw [<- hM] at m0 i2 ⊢
 rw [<- hm] at m0 ⊢
 have HM := sK hM
 have n0 := sK hmod
 rw [<- hm] at n0
 have n6 : m <= 8 := by rw [hm, e2]; split <;> omega
 have s5 : 1 <= M ∧ M <= 8 := by omega
 have p6 : ((S.p : Int) != (F.p : Int)) = false := by rw [hp]; simp
 have l4 : Hid (m = if S.m = 0 then 0 else S.m + 1) := sK (by rw [hm, e2])
 have s2 := sK p3
 have k4 := sK g3
 have q1 : Hid (∀ wx, From w wx -> GFat wx b F) := sK fun wx h9 => hG.below h9
 have o0 := sK g1
 have r2 := sK fun i => g1.pw_lt (imgR F S) i
 have t1 := sK hS
 have HP := sK hp
 have i5 := hmod.cap
 have j5 := hmod.max
 unfold maxLen at j5
 rw [<- hm] at i5
 clear hM hmod hm e2 p3 g3 hG g1 hS hp e1 hd
 go_enter Tryz.func55, Tryz.ntmps55
 go_upto_region 1 with fail
 obtain ⟨W, hW⟩ := xQ (w.alloc (.cells #[nQ S.p, nQ M, .slice A m c] 24))
 have x2 : From w W := by rw [hW]; exact Ac _ _
 have u5 : W.heap.size = w.heap.size + 1 := by rw [hW]; simp
 have HC : Hid (∀ wx, From W wx -> wx.cell? ⟨w.heap.size, 0, none⟩ = some (nQ S.p) ∧ wx.cell? ⟨w.heap.size, 1, none⟩ = some (nQ M) ∧ wx.cell? ⟨w.heap.size, 2, none⟩ = some (.slice A m c)) := sK fun wx hx => by
  refine ⟨?_, ?_, ?_⟩
  all_goals
   rw [Below.cell hx (by rw [hW]; simp), hW]; go_simp
 rw [<- hW]
 obtain ⟨a0, b0, c0⟩ := HC W (From.refl W)
 have HW : Hid (∀ wx, From W wx -> From w wx) := sK fun wx hx => x2.trans (qf hx (by omega))
 clear hW x2
 go_upto_region 4 with (go_at_call 54; refine (m0 W (HW W (From.refl W))).mono ?_; rintro e w1 ⟨h, rfl, f6, d3, y2⟩)
 have k2 := sK y2
 have e4 := sK d3
 clear d3 y2 a0 b0 c0
 go_upto_region 5 with (go_at_call 105; refine (s4 w1 (HW w1 k2.out)).mono ?_; rintro e w2 ⟨rfl, a2⟩)
 have m1 := sK (Aa a2 k2.out)
 have c4 : Hid (GFat w2 h S) := sK (e4.below a2)
 clear a2
 obtain ⟨a0, b0, c0⟩ := HC w2 m1.out
 go_upto_region 8 with (go_at_call 106; refine (i2 w2 (HW w2 m1.out)).mono ?_; rintro e w3 ⟨rfl, c2⟩)
 have z0 : From W w3 := Aa c2 m1.out
 have u2 : GFat w3 h S := c4.below c2
 have x1 : OwnN (w3.alloc (.cells #[.int .i64 1] 3)) w3.heap.size (sQ w3.heap.size) 1 1 [1] := OwnN.lit w3 [1] 1 rfl (qb _) (by unfold maxLen; omega) (Sm.one (by omega))
 have v1 : From w3 (w3.alloc (.cells #[.int .i64 1] 3)) := Ac _ _
 obtain ⟨W4, z1⟩ := xQ (w3.alloc (.cells #[.int .i64 1] 3))
 rw [<- z1] at x1 v1 ⊢
 have n5 : w3.heap.size < W4.heap.size := by rw [z1]; simp
 have s1 := sK x1
 have l0 := sK v1
 have q5 := sK z0
 have d4 := sK u2
 have d0 : Hid (∀ wx, From w3 wx -> From W wx) := sK fun wx h9 => Aa h9 z0
 have o5 : w.heap.size + 1 <= w3.heap.size := by have := z0.size; omega
 obtain ⟨g4, d2⟩ := xQ w3.heap.size
 have n1 := sK d2
 rw [<- d2] at n5 o5 s1 ⊢
 clear z1 x1 v1 c2 a0 c0 z0 u2 d2
 obtain ⟨a0, b0, c0⟩ := HC W4 (d0 W4 l0.out)
 go_upto_if 43 with fail
 go_cut [10, 11, 12, 13] from 43 to 76 (fun pv _ _ _ wx => ∃ (AP : OQ) (cp : Nat), pv = .slice AP M cp ∧ RdN wx AP M cp (powL F (imgR F S) M) ∧ From w3 wx)
 case first =>
  by_cases hm0 : S.m = 0
  ·have z4 : M = 1 := by have := HM.out; omega
   subst z4; have n3 : powL F (imgR F S) 1 = [1] := by simp [powL, FD.pw]
   have r4 := sK n3; clear a0 b0 c0 hm0 n3; go_wp2; go_meet
   case rel => exact ⟨_, _, rfl, by rw [r4.out]; exact s1.rd, l0.out⟩
  ·have g5 : m = M := by have := l4.out; rw [if_neg hm0] at this; rw [HM.out, this]
   have t5 : (1 : Int) < (M : Int) := by have := HM.out; omega
   have m6 : w.heap.size < W4.heap.size := by omega
   subst g5; have c3 := Wu o0 t1 HP.out; have f5 : (modL S ++ [1]).length = m + 1 := by rw [Hq, n0.len]; rfl
   have r3 : tlen (modL S ++ [1]) (m + 1) = m + 1 := by
    rw [tlen, if_neg]; rw [qa, Gq (by rw [n0.len]; exact qb _), n0.len]; simp
   have y0 := sK fun (wx : WQ) (h9 : From w wx) (A' : OQ) (c' : Nat) (hr : RdN wx A' (m + 1) c' (modL S ++ [1])) => fC wx b F (q1 wx h9) A' (m + 1) c' _ hr c3 (by omega) (by omega) r3
   have r1 := sK (k4 hm0); have m4 := sK (n0.below (HW W4 (d0 W4 l0.out))); unfold Wi at y0; clear c3 f5 r3 a0 b0 hm0; obtain ⟨RL, y1⟩ := xQ (Fk F (modL S ++ [1])); have i4 : Hid (imgR F S = RL.getD 0 0) := sK (by rw [y1]; rfl); rw [<- y1] at y0 r1; clear y1; obtain ⟨k, hk⟩ := xQ RL.length; rw [<- hk] at y0 r1; have f3 : 0 < k := r1.out; have l6 : ((k : Int) == 0) = false := by rw [beq_eq_false_iff_ne]; omega
   clear hk; have k5 : 0 < m := by omega
   go_upto_region 10 with (first | (at_builtin; have _t := o3; refine Bl rfl (.tmp 49) (.tmp 50) 22 rfl i0 Tryz.underlying22 f1 i1 j1 k1 W4.heap.size _ _ _ _ rfl (((r0 (by omega)).mono (by simp)).alloc _) _ 0 1 rfl (by go_simp) (by omega) (by omega) (by simp; have := g0.size; simp at this; omega) ?_; intro g6 c6 w6 i3 c1 l5; have w0 := sK (kU g0 (r0 k5) c1)) | (at_builtin; refine Er rfl (.tmp 46) (.tmp 48) 22 rfl i0 Tryz.underlying22 f1 i1 j1 k1 _ rfl A m c (modL S) rfl (m4.alloc _) (by omega) ?_; intro A5 c5 w5 o3 r0 g0) | (go_at_call 107; refine (y0 w6 (HW w6 (d0 w6 (Aa w0 l0.out))) _ _ i3.rd).mono ?_; rintro e w7 ⟨A7, c7, rfl, j0, h0⟩))
   have a4 := sK (Aa h0 (Aa w0 l0.out)); have v2 : OwnN w7 g4 (sQ g4) 1 1 (powL F (imgR F S) 1) := by
    have := (s1.below w0.out).below h0
    rwa [show powL F (imgR F S) 1 = [1] by simp [powL, FD.pw]]
   have p4 := sK v2; obtain ⟨ga, rfl, d6, e6⟩ := j0.block f3; have e0 : w7.cell? ⟨ga, 0, none⟩ = some (.int .i64 ((imgR F S : Nat) : Int)) := by rw [i4.out]; exact j0.cell f3
   have t4 : Hid (W4.heap.size <= w6.heap.size) := sK w0.size; have v3 := sK e0; have e5 := j0.le; unfold maxLen at e5; clear v2 j0 h0 i3 c1 l5 o3 r0 g0 e0; go_wp2
   go_loopw [10, 13] (fun pv f0 wr => ∃ i g' c' : Nat, 1 <= i ∧ i <= m ∧ f0 = nQ i ∧ pv = .slice (sQ g') i c' ∧ OwnN wr g4 (sQ g') i c' (powL F (imgR F S) i) ∧ (g' < w6.heap.size ∨ w7.heap.size <= g') ∧ wr.cell? ⟨ga, 0, none⟩ = some (.int .i64 ((imgR F S : Nat) : Int)) ∧ From w3 wr ∧ w7.heap.size <= wr.heap.size) (fun _ f0 _ => m - (intOf f0).toNat)
   case atStart => exact ⟨1, g4, 1, qb _, by omega, rfl, rfl, p4.out, .inl (by have := t4.out; omega), v3.out, a4.out, qb _⟩
   case round =>
    obtain ⟨i, gp, cp, h6, i6, rfl, rfl, hO, o6, e0, hF, t6⟩ := hrel; obtain ⟨wo, rfl⟩ := xQ wr; obtain ⟨a0, b0, c0⟩ := HC wo (d0 wo hF)
    by_cases hin : i < m
    ·have e3 : (i : Int) < (m : Int) := by omega
     obtain ⟨j, hj⟩ : ∃ j, i = j + 1 := ⟨i - 1, by omega⟩
     have a5 := hO.le; unfold maxLen at a5; have p2 : Hid (∀ wx, From wo wx -> cQ 108 #[pQ b, iv (F.pw (imgR F S) j), iv (imgR F S)] wx (Bs (iv (F.pw (imgR F S) i)) wx)) := sK fun wx h9 => by
      rw [hj]; exact Fy wx b F (q1 wx (HW wx (d0 wx (Aa h9 hF)))) _ _ (r2 j) s2.lt
     have y3 : Hid (∀ wx, From wo wx -> wx.cell? ⟨gp, j, none⟩ = some (.int .i64 ((F.pw (imgR F S) j : Nat) : Int)) ∧ wx.cell? ⟨ga, 0, none⟩ = some (.int .i64 ((imgR F S : Nat) : Int))) := sK fun wx h9 => by
      refine ⟨?_, (h9.cell (p := ⟨ga, 0, none⟩) (show ga < wo.heap.size by omega)).trans e0⟩; rw [(hO.below h9).cell (show j < i by omega), jF F _ (show j < i by omega)]
     have m5 : F.pw (imgR F S) i < 1000000 := by have := r2 i; omega
     have u4 := sK (eS F (imgR F S) i); have HO := sK hO; have HF := sK hF; have x3 := sK e0; unfold iv at p2; have j6 : (i : Int) - 1 = (j : Int) := by omega
     have k6 : (j : Int) < (i : Int) := by omega
     have u6 : IntKind.i64.wrap (j : Int) = (j : Int) := Ay (by omega); clear hO hF e0 hj; generalize F.pw (imgR F S) i = y at *; generalize F.pw (imgR F S) j = x at *; go_upto_region 15 with fail
     clear a0 b0 c0; have y4 : From wo wo := From.refl wo; refine wpT 12 96 [.v (.slice (sQ gp) i cp), .v (pQ b), .v (.slice (sQ gp) i cp), .v (nQ i), .v (nQ j), .v (.pointer (some ⟨gp, j, none⟩)), .v (nQ x), .v (.slice (sQ ga) k c7), .v (pQ ga), .v (nQ (imgR F S)), .v (nQ y), .r (Vt wo.heap.size y) Vt.lasting] wo (by kernel_rfl) (by kernel_rfl) (by kernel_rfl) rfl (From.drew y4) ?_; simp only [Tk]
     iterate 11 (refine .z (fun wx hx _ hK => by first | (go_simp; exact Kz hK) | (obtain ⟨z5, a6⟩ := y3 wx hx; go_simp; exact Kz hK) | (go_simp; refine (p2 wx hx).mono ?_; rintro e w' ⟨rfl, j9, rfl⟩; exact hK.out _ _ rfl (Ae (bR) _))) ?_; simp only [Pt])
     refine .r (fun wx hx hd KK hK => ?_) (fun z6 => ?_)
     ·clear hd
      go_simp; exact hK.out _ _ ⟨_, rfl, hx.size, by simp, by go_simp⟩ (Ac _ _)
     simp only [Pt]; refine .nil fun w8 t0 hd => ?_
     obtain ⟨x4, rfl, r5, y6, w4⟩ := hd _ (.head _); clear hd; have p5 : g4 <= w8.heap.size := by have := t0.size; have := HF.size; have := n1.out; omega
     go_wp2_with (at_builtin; refine Bl rfl (.tmp 64) (.tmp 75) 22 rfl i0 Tryz.underlying22 f1 i1 j1 k1 g4 _ _ _ _ rfl (HO.below t0) x4 0 y rfl w4 m5 (by omega) p5 ?_; intro g9 c9 w9 j3 d1 l3; have a3 := d1.cell ((t0.cell (p := ⟨ga, 0, none⟩) (show ga < wo.heap.size by omega)).trans x3.out) (fun e => by simp [Value.ownBlock] at e; omega)); have t2 : From w3 w9 := (Aa t0 HF.out).grown d1 (by have := n1.out; omega) (fun k9 d5 => by
      rcases HO.form with ⟨h1, _⟩ | ⟨g8, h1, h2, _⟩
      ·cases h1
      ·simp [Value.ownBlock] at d5 h1
       have := n1.out; omega)
     have s6 := d1.size; have v6 := t0.size; have q4 := sK j3; have b4 := sK t2; have u3 := sK a3; have k3 : g9 < w6.heap.size ∨ w7.heap.size <= g9 := by
      rcases l3 with h1 | h1
      ·simp only [qc, qd, and_true] at h1; omega
      ·omega
     have x0 := sK k3; clear j3 t2 a3 d1 l3 k3; go_wp2; go_roundw
     case rel => exact ⟨i + 1, g9, c9, by omega, by omega, by go_num, rfl, by rw [u4.out]; exact q4.out, x0.out, u3.out, b4.out, by omega⟩
     case measure => simp [intOf]; omega
    ·obtain rfl : i = m := by omega
     have HO := sK hO; have HF := sK hF; have e3 : decide ((i : Int) < (i : Int)) = false := by simp
     clear hO hF e0; go_wp2; go_meet
     case rel => exact ⟨_, _, rfl, HO.rd, HF.out⟩
 case rest =>
  obtain ⟨AP, cp, rfl, q3, a1⟩ := hcut; obtain ⟨wo, rfl⟩ := xQ wc; have m2 : Hid (∀ wx, From w3 wx -> GFat wx h S) := sK fun wx h9 => d4.below h9
  have x0 := sK fun (wx : WQ) (h9 : From w3 wx) => Ir wx h S (m2 wx h9)
  have l1 : Hid (∀ wx, From w3 wx -> ∀ x, x < S.q -> cQ 111 #[pQ h, iv x] wx (RetN M (digs S.p M x) wx)) := sK fun wx h9 x hx => by
   rw [HM.out]; exact Us wx h S (m2 wx h9) x hx
  have j2 : Hid (∀ wx, From wo wx -> ∀ x, x < S.q -> ∀ (B : OQ) (cB : Nat), RdN wx B M cB (digs S.p M x) -> cQ 110 #[pQ b, .slice B M cB, .slice AP M cp] wx (Bs (iv ((imgL F S).getD x 0)) wx)) := sK fun wx h9 x hx B cB hr => by
   have e : (imgL F S).getD x 0 = dotL F (digs S.p M x) (powL F (imgR F S) M) := by
    rw [HM.out, oK o0 t1 HP s2.lt]; simp [imgL, qa, hx]
   rw [e]; have q6 := o0.p_le_q; exact qT wx b F (q1 wx (HW wx (d0 wx (Aa h9 a1)))) B AP M cB cp _ _ hr (q3.below h9) (fun y hy => by have := Dy t1.p0 _ _ y hy; have := HP.out; omega) (kN o0 _ _)
  have j4 : Hid (∀ x, x < S.q -> (imgL F S).getD x 0 < 1000000) := sK fun x hx => by
   have e : (imgL F S).getD x 0 = phi F S (imgR F S) x := by simp [imgL, qa, hx]
   rw [e]; have := Ml o0 S (imgR F S) x; omega
  have n2 := sK (Wf F S); have l2 := sK a1; have u1 := sK (HW wo (d0 wo a1)); unfold RetN at l1; unfold iv at x0 l1 j2; clear q3 a1 a0 b0 c0; generalize hIe : imgL F S = I at *; have f4 := sK hIe; clear hIe; go_wp2_with (first | (go_at_call 109; refine (x0 wo l2.out).mono ?_; rintro e w5 ⟨rfl, rfl⟩) | (at_make; refine Bd rfl _ _ _ rfl i0 Tryz.underlying22 f1 i1 j1 k1 _ _ S.q rfl rfl (by omega) ?_; intro w6 m3 z2 r6)); have o4 : Hid (OwnN w6 wo.heap.size (sQ wo.heap.size) S.q S.q (mixL I (List.replicate S.q 0) 0)) := sK (by rw [Cz]; exact m3); have t3 := sK z2; clear m3 z2
  go_loopw [82] (fun f0 wr => ∃ x, x <= S.q ∧ f0 = nQ x ∧ OwnN wr wo.heap.size (sQ wo.heap.size) S.q S.q (mixL I (List.replicate S.q 0) x) ∧ From wo wr) (fun f0 _ => S.q - (intOf f0).toNat)
  case atStart => exact ⟨0, qe _, rfl, o4.out, t3.out⟩
  case round =>
   obtain ⟨x, hx, rfl, ho, hb⟩ := hrel; have q0 := sK ho; have v0 := sK hb; clear ho hb
   by_cases hxq : x < S.q
   ·have x6 : (x : Int) < (S.q : Int) := by omega
    have H8 := sK (l1 wr (Aa v0 l2.out) x hxq); have b5 := j4 x hxq; have hc := q0.cell hxq; have hf := q0.free x; have g2 := fun (wx : WQ) (h9 : From wr wx) => (q0.below h9).set x b5
    rw [Cu n2 (by simp) hxq] at g2; have v4 := sK g2; have z3 := sK fun (wx : WQ) (h9 : From wr wx) => j2 wx (Aa h9 v0.out) x hxq
    have s3 : wo.heap.size < wr.heap.size := by
     rcases q0.form with ⟨h1, _⟩ | ⟨g, h1, _, h3, _⟩
     ·cases h1
     ·simp only [qc, qd, and_true] at h1; omega
    clear g2; generalize I.getD x 0 = y at *; go_wp2_with (first | (go_at_call 111; refine H8.mono ?_; rintro e w7 ⟨B7, c7, rfl, j0, h0⟩) | (go_at_call 110; refine (z3 w7 h0 B7 c7 j0.rd).mono ?_; rintro e w8 ⟨rfl, j8, rfl⟩; have b1 : From wr (w7.drewN j8) := Ae h0 j8; have y5 := (b1.cell (p := ⟨wo.heap.size, x, none⟩) s3).trans hc; have b6 := (b1.frozen (p := ⟨wo.heap.size, x, none⟩) s3).trans hf)); go_roundw
    case rel => exact ⟨x + 1, by omega, by go_num, v4 _ b1, (Aa b1 v0.out).setCell (p := ⟨wo.heap.size, x, none⟩) (qb _) _⟩
    case measure => simp [intOf]; omega
   ·obtain rfl : x = S.q := by omega
    have f2 := q0.out; rw [Dp n2 (by simp)] at f2; have n4 := sK f2; have e3 : decide ((S.q : Int) < (S.q : Int)) = false := by simp
    clear f2; go_wp2; go_ret2; exact ⟨_, _, rfl, by rw [f4.out]; exact n4.mono u1.size, u1.trans (qf v0 u1.size)⟩
end Go.Proofs.YtoalkldfhkabnaaGreatDoor
