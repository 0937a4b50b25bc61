/- Part of WholeTraces. -/
import Derived.Deep.RegionLawGrows
import Derived.WalkSpells
import Derived.Test.YtoalkldfhkabnaaGreatDoorW00
import Derived.Test.YtoalkldfhkabnaaGreatDoorW04
import Derived.Test.YtoalkldfhkabnaaGreatDoorW05
set_option linter.all false
set_option maxRecDepth 10000
set_option maxHeartbeats 16000000
namespace Go.Proofs.YtoalkldfhkabnaaGreatDoor
open Go.RowKit Fq
theorem Hg {P : Program} {ops : Array Oper} {o : Oper} {a : Act} {w : WQ} {K : Act -> WQ -> Prop} {Q : Exit -> Act -> WQ -> Prop} {E : Prop} (hg : o.guard = none) (s x : Operand) (t : TypeId)
  (hop : o.op = Op.call { callee := Callee.builtin Builtin.append, args := #[s, x], argTypes := #[t, t] }) (i : TypeInfo) (ht : P.underlying t = some (.slice 3)) (hi : P.info? 3 = some i) (hz : i.zero = some (zQ)) (hsize : i.size = 1) (hby : i.bytes = 8)
  (g : Nat) (hs : a.eval s = .slice (sQ g) 0 0) (A : OQ) (n c : Nat) (l : NQ) (hx : a.eval x = .slice A n c) (hr : RdN w A n c l) (hn : n <= 1000000)
  (hK : ∀ A' c' w', RdN w' A' n c' l -> (0 < n -> OwnN w' w.heap.size A' n c' l) -> Below w.heap.size w w' -> K (a.put o.dst (.slice A' n c')) w') :
  if Region.wanted o (yielded ops a.tmps) = true then Oper.wp P o a w K Q else E := by
 rcases Xq n with h0 | h0
 ·subst h0
  have hl : l = [] := Lq hr.len; subst hl; have hw : Region.wanted o (yielded ops a.tmps) = true := by simp [Region.wanted, hg]
  rw [if_pos hw]; have c0 : (Builtin.append_ #[t, t] o.type #[.slice (sQ g) 0 0, .slice A 0 c]).run P w = .ok (.slice (sQ g) 0 0) w := by
   cases A <;> simp [Builtin.append_, run_underlying ht, sizeOf, typeInfo, hi, Builtin.lenOf, Builtin.firstCells, storeCells, loadCells, loadCellsFrom]
  unfold Oper.wp; simp [execOp, hop, resolve, invoke, builtin, hs, hx, c0, Result.andThen]; exact hK _ _ _ (RdN.empty w _ 0 (qe _)) (fun h9 => absurd h9 (by omega)) (bR)
 ·obtain ⟨b, d0, rfl, _, hc⟩ := hr.cells h0
  refine step_append_grows hg s x t hop 3 i (zQ) 1 8 ht hi hz hsize hby rfl (by omega) _ 0 0 [] hs (fun h => by cases h) rfl (fun _ _ _ _ h => by simp at h) ⟨b, d0, none⟩ n c (ivs l) hx (by rw [Cl, hr.len]; omega) (fun j u hj => ?_) (Tb l) (by omega) (by unfold maxLen; omega) (by omega) fun v' w' h1 h2 => ?_
  ·obtain ⟨a0, rfl⟩ := Lb hj
   rw [hr.len] at a0; rw [qcg]; exact hc j a0
  ·rw [Zq, qbp] at h1
   have hb : Below w.heap.size w w' := (Below.refl w.heap.size w).grown h2 (qb _) (fun k hk => by cases hk)
   rcases Ce h1 with ⟨_, h4, _⟩ | ⟨g', c', rfl, _⟩
   ·omega
   ·exact hK _ _ _ (OwnN.rd ⟨h1, hr.sm⟩) (fun _ => ⟨h1, hr.sm⟩) hb
theorem Er {P : Program} {ops : Array Oper} {rest : List Oper} {o : Oper} {a : Act} {w : WQ} {Q : Exit -> Act -> WQ -> Prop} (hg : o.guard = none) (s x : Operand) (t : TypeId)
  (hop : o.op = Op.call { callee := Callee.builtin Builtin.append, args := #[s, x], argTypes := #[t, t] }) (i : TypeInfo) (ht : P.underlying t = some (.slice 3)) (hi : P.info? 3 = some i) (hz : i.zero = some (zQ)) (hsize : i.size = 1) (hby : i.bytes = 8)
  (g : Nat) (hs : a.eval s = .slice (sQ g) 0 0) (A : OQ) (n c : Nat) (l : NQ) (hx : a.eval x = .slice A n c) (hr : RdN w A n c l) (hn : n <= 1000000)
  (hK : ∀ A' c' w', RdN w' A' n c' l -> (0 < n -> OwnN w' w.heap.size A' n c' l) -> Below w.heap.size w w' -> wpList P ops Q rest (a.put o.dst (.slice A' n c')) w') : wpList P ops Q (o :: rest) a w :=
 wpList_plain hg fun K b0 => by
  have h := Hg (P := P) (ops := ops) (o := o) (a := a) (w := w) (K := K) (Q := Q) (E := True) hg s x t hop i ht hi hz hsize hby g hs A n c l hx hr hn fun A' c' w' h1 h2 h3 => b0 _ _ (hK A' c' w' h1 h2 h3)
  rw [if_pos (by simp [Region.wanted, hg])] at h; exact h
def IsSl (n : Nat) (v : Value) (_ : WQ) : Prop := ∃ g c, v = .slice (sQ g) n c
theorem IsSl.lasting {n : Nat} : ∀ v w w', Below w.heap.size w w' -> IsSl n v w -> IsSl n v w' := fun _ _ _ _ h => h
theorem Po (w : WQ) (F : FD) (hF : F.Ok) (A : OQ) (c : Nat) (hmod : RdN w A (modL F).length c (modL F)) :
  cQ 51 #[Ax F A c] w (Ah (zQ) w) := by
 obtain ⟨z0, hq, x0, y0, w0⟩ := hF.bd
 obtain ⟨mL, i0⟩ := xQ ((modL F).length)
 obtain ⟨M, hM⟩ := xQ (F.m + 1)
 have e1 : Ax F A c = .agg #[nQ F.p, nQ M, .slice A mL c] := by rw [hM, i0]; rfl
 have l0 := fun w' (hb : Below w.heap.size w w') => Sa w' F hF A c (hmod.below hb)
 have j0 : ∀ w', cQ 103 #[nQ F.p, nQ M] w' (Ba (iv F.q) w') := fun w' => by rw [hM]; exact Jd w' F hF
 have h0 := fun w' (hb : Below w.heap.size w w') => Jz w' F hF A c (hmod.below hb)
 have d0 := sK l0
 have m0 := sK j0
 have c0 := sK h0
 clear l0 j0 h0 hM i0 hmod
 rw [e1] at d0 c0 ⊢
 unfold iv at *
 clear e1
 go_enter Tryz.func51, Tryz.ntmps51
 go_wp2
 obtain ⟨W, hW⟩ := xQ (w.alloc (.cells #[nQ F.p, nQ M, .slice A mL c] 24))
 have g0 : Below w.heap.size w W := by rw [hW]; exact Ac _ _
 have hC : ∀ wx, From W wx -> wx.cell? ⟨w.heap.size, 0, none⟩ = some (nQ F.p) ∧ wx.cell? ⟨w.heap.size, 1, none⟩ = some (nQ M) ∧ wx.cell? ⟨w.heap.size, 2, none⟩ = some (.slice A mL c) := fun wx hx => by
  refine ⟨?_, ?_, ?_⟩
  all_goals
   rw [Below.cell hx (by rw [hW]; simp), hW]; go_simp
 have HC := sK hC
 have a0 : Hid (∀ wx, From W wx -> Below w.heap.size w wx) := sK fun wx hx => g0.trans (qf hx (by rw [hW]; simp))
 rw [<- hW]
 clear hW hC g0
 have n0 : From W W := From.refl W
 refine wpT 13 16 [.v (.agg #[nQ F.p, nQ M, .slice A mL c]), .v (.bool true), .v (.bool false), .v (.bool false), .v (.agg #[nQ F.p, nQ M, .slice A mL c]), .v (pQ w.heap.size), .v (nQ F.p), .v (.pointer (some ⟨w.heap.size, 1, none⟩)), .v (nQ M), .v (nQ F.q), .r (IsSl (F.q - 1)) IsSl.lasting, .v (.bool false), .v (.bool false)] W (by kernel_rfl) (by kernel_rfl) (by kernel_rfl) rfl (From.drew n0) ?_
 simp only [Tk]
 iterate 10 (refine .z (fun wx hx _ hK => by first | (go_simp; exact Kz hK) | (obtain ⟨q0, r0, t0⟩ := HC wx hx; go_simp; exact Kz hK) | (go_simp; refine (d0 wx (a0 wx hx)).mono ?_; rintro e w' ⟨rfl, b0⟩; exact hK.out _ _ rfl b0) | (go_simp; refine (m0 wx).mono ?_; rintro e w' ⟨rfl, rfl⟩; exact Kz hK)) ?_; simp only [Pt])
 refine .r (fun wx hx hd KK hK => ?_) (fun a1 => ?_)
 ·clear hd
  go_simp; refine (c0 wx (a0 wx hx)).mono ?_; rintro e w' ⟨g, cc, rfl, _, b0⟩; exact hK.out _ _ ⟨g, cc, rfl⟩ b0
 simp only [Pt]
 refine .v (fun wx hx hd KK hK => ?_) ?_
 ·obtain ⟨f0, e0, rfl⟩ := hd _ (.head _) (by kernel_rfl)
  clear hd; have v0 := qbq (P := Tryz.prog) wx 22 3 (sQ f0) (F.q - 1) e0 0 0 Tryz.underlying22; go_simp; exact Kz hK
 simp only [Pt]
 refine .z (fun _ _ _ hK => by go_simp; exact Kz hK) ?_; simp only [Pt]
 refine .nil fun W5 o0 hd => ?_
 obtain ⟨f0, e0, rfl⟩ := hd _ (.head _)
 clear hd
 go_wp2
 go_ret
 exact ⟨rfl, a0 _ o0⟩
theorem RdN.kept {w w' : WQ} {A : OQ} {n c r : Nat} {l : NQ} (h : RdN w A n c l) (hg : w.grownBy w' (some r)) (hne : ∀ b a0, A = some ⟨b, a0, none⟩ -> 0 < n -> b ≠ r) : RdN w' A n c l :=
 ⟨h.len, h.cap, h.max, h.sm, fun hn => by
  obtain ⟨b, a0, e, g0, hc⟩ := h.cells hn; exact ⟨b, a0, e, qk g0 hg.size, fun j hj => hg.cell (hc j hj) (fun e9 => hne b a0 e hn (by simpa using e9))⟩⟩
theorem mod0 {F : FD} (h : F.Ok) (hm : F.m ≠ 0) : F.v % F.p ≠ 0 := by
 intro h0
 have n0 := h.p1
 have hX : F.p < F.q := by
  have : F.p ^ 1 < F.p ^ (F.m + 1) := qax n0 (by omega)
  rwa [qbk] at this
 have o2 := h.p0
 have hi := h.mul_inv hX (by omega)
 have k2 : F.inv F.p < F.q := h.pw_lt _ _
 rw [h.mul_comm hX k2] at hi
 have e : F.mul (F.inv F.p) F.p = mX F.p F.m F.v (F.inv F.p) := by
  have h1 := aK n0 (v := F.v) (m := F.m) (F.inv F.p) (y := 1) (qby hm n0); rw [qbw, Fq.mul_one n0 k2] at h1; exact h1
 rw [e] at hi
 have h2 : mX F.p F.m F.v (F.inv F.p) % F.p = 0 := by
  unfold mX; rw [Dr o2, qat, Ja o2, h0, qce]; simp
 rw [hi, Bq n0] at h2
 omega
theorem qY {F : FD} (h : F.Ok) (hm : F.m ≠ 0) : (modL F).getD 0 0 ≠ 0 := by
 unfold modL
 rw [if_neg hm]
 exact mod0 h hm
def logL (F : FD) : Nat -> NQ
 | 0 => List.replicate F.q 0
 | k + 1 => (logL F k).set (F.pw F.x k) k
theorem Px (F : FD) : ∀ k, (logL F k).length = F.q
 | 0 => by simp [logL]
 | k + 1 => by rw [logL, qai, Px F k]
theorem Wy {F : FD} (h : F.Ok) : ∀ k, k <= F.q - 1 -> ∀ i, i < k -> (logL F k).getD (F.pw F.x i) 0 = i
 | 0, _, i, hi => by omega
 | k + 1, hk, i, hi => by
  rw [logL, Od _ _ _ _ (by rw [Px]; exact h.pw_lt _ _)]
  by_cases e : i = k
  ·rw [e, if_pos rfl]
  ·rw [if_neg fun e2 => e (h.pw_inj (by omega) (by omega) e2)]
   exact Wy h k (by omega) i (by omega)
theorem Ol {F : FD} (h : F.Ok) : jZ F F.x (logL F (F.q - 1)) := ⟨Px F _, fun i hi => Wy h _ (qb _) i hi⟩
def Oo (B : Nat) (F : FD) (mL : Nat) (M : Nat) (v : Value) (w : WQ) : Prop := ∃ A c, v = .agg #[nQ F.p, nQ M, .slice A mL c] ∧ RdN w A mL c (modL F) ∧ ∀ b a0, A = some ⟨b, a0, none⟩ -> 0 < mL -> B <= b
theorem Oo.lasting {B : Nat} {F : FD} {mL M : Nat} : ∀ v w w', Below w.heap.size w w' -> Oo B F mL M v w -> Oo B F mL M v w' := fun _ _ _ hb ⟨A, c, h1, h2, h3⟩ => ⟨A, c, h1, h2.below hb, h3⟩
def On (B n : Nat) (l : NQ) (v : Value) (w : WQ) : Prop := ∃ A c, v = .slice A n c ∧ RdN w A n c l ∧ ∀ b a0, A = some ⟨b, a0, none⟩ -> 0 < n -> B <= b
theorem On.lasting {B n : Nat} {l : NQ} : ∀ v w w', Below w.heap.size w w' -> On B n l v w -> On B n l v w' := fun _ _ _ hb ⟨A, c, h1, h2, h3⟩ => ⟨A, c, h1, h2.below hb, h3⟩
structure GFo (w : WQ) (base b : Nat) (F : FD) : Prop where
 gf : GFat w b F
 far : ∀ w' : WQ, (∀ i, base <= i -> i < w.heap.size -> w'.heap[i]? = w.heap[i]?) -> w.heap.size <= w'.heap.size -> GFat w' b F
theorem RdN.moved {w w' : WQ} {A : OQ} {n c base : Nat} {l : NQ} (h : RdN w A n c l) (hb : ∀ i, base <= i -> i < w.heap.size -> w'.heap[i]? = w.heap[i]?) (hs : w.heap.size <= w'.heap.size) (ho : ∀ b a0, A = some ⟨b, a0, none⟩ -> 0 < n -> base <= b) : RdN w' A n c l :=
 ⟨h.len, h.cap, h.max, h.sm, fun hn => by
  obtain ⟨b, a0, e, g0, hc⟩ := h.cells hn; exact ⟨b, a0, e, qk g0 hs, fun j hj => (World.cell?_of_block (w := w) (hb b (ho b a0 e hn) g0)).trans (hc j hj)⟩⟩
def Xa (b n : Nat) (v : Value) (w : WQ) : Prop := ∃ g, v = .slice (sQ g) n n ∧ b <= g ∧ OwnN w b (sQ g) n n (List.replicate n 0)
theorem Xa.lasting {b n : Nat} : ∀ v w w', Below w.heap.size w w' -> Xa b n v w -> Xa b n v w' := fun _ _ _ hb ⟨g, h1, h2, h3⟩ => ⟨g, h1, h2, h3.below hb⟩
def Kr (v : Value) (_ : WQ) : Prop := ∃ g, v = .slice (sQ g) 0 0
theorem Kr.lasting : ∀ v w w', Below w.heap.size w w' -> Kr v w -> Kr v w' := fun _ _ _ _ h => h
theorem Ug {P : Program} {ops : Array Oper} {o : Oper} {a : Act} {w : WQ} {K : Act -> WQ -> Prop} {Q : Exit -> Act -> WQ -> Prop} {E : Prop} (hg : o.guard = none) (l c : Operand) (t : TypeId) (ho : o.op = Op.makeSlice t l c) (i : TypeInfo) (ht : P.underlying t = some (.slice 3)) (hi : P.info? 3 = some i) (hz : i.zero = some (zQ)) (hsize : i.size = 1) (hby : i.bytes = 8)
  (n : Nat) (hl : a.eval l = nQ n) (hc : a.eval c = nQ n) (hn : n <= 1000000)
  (h : ∀ w1, OwnN w1 w.heap.size (sQ w.heap.size) n n (List.replicate n 0) -> Below w.heap.size w w1 -> w1.heap.size = w.heap.size + 1 -> K (a.put o.dst (.slice (sQ w.heap.size) n n)) w1) :
  if Region.wanted o (yielded ops a.tmps) = true then Oper.wp P o a w K Q else E := by
 have hw : Region.wanted o (yielded ops a.tmps) = true := by simp [Region.wanted, hg]
 rw [if_pos hw]
 have u3 := run_make_row (P := P) t 3 i (zQ) ht hi hz hsize rfl .i64 .i64 n (by rw [hby]; omega) (by omega) w
 have r3 : madeCells #[Value.int .i64 0] n = (ivs (List.replicate n 0)).toArray := by
  have h1 : ∀ n, (madeCells #[Value.int .i64 0] n).toList = ivs (List.replicate n 0) := by
   intro n; simp only [madeCells, Array.toList_map, Array.toList_range]; refine Tq (by simp [ivs]) fun j h1 h2 => ?_
   simp [Nat.mod_one, ivs, iv]
  rw [<- h1 n]
 have h9 := h _ (OwnN.lit w (base := w.heap.size) (List.replicate n 0) n (by simp) (qb _) (by unfold maxLen; omega) (Sm.zeros n)) (Ac _ _) (by simp)
 rw [<- r3] at h9
 unfold Oper.wp
 simp [execOp, ho, hl, hc, u3, Result.andThen]
 exact h9
def Ga (F : FD) (w : WQ) (e : Ending) (w' : WQ) : Prop := ∃ b, e = .returned (.tuple #[pQ b, zQ]) ∧ w.heap.size <= b ∧ GFat w' b F ∧ Below w.heap.size w w'
def Zs (F : FD) (w : WQ) (e : Ending) (w' : WQ) : Prop := ∃ b, e = .returned (.tuple #[pQ b, zQ]) ∧ w.heap.size <= b ∧ GFo w' w.heap.size b F ∧ Below w.heap.size w w'
theorem Mp (w : WQ) (F : FD) (hF : F.Ok) (A : OQ) (c : Nat) (hmod : RdN w A (modL F).length c (modL F)) :
  cQ 54 #[Ax F A c] w (Zs F w) := by
 obtain ⟨i0, hi, s2, t2, u2⟩ := info_parts Bj
 obtain ⟨m4, hq, j4, k4, g4⟩ := hF.bd
 obtain ⟨mL, w0⟩ := xQ ((modL F).length)
 obtain ⟨M, hM⟩ := xQ (F.m + 1)
 have e1 : Ax F A c = .agg #[nQ F.p, nQ M, .slice A mL c] := by rw [hM, w0]; rfl
 have i4 : mL <= 9 := by have := Fp F; split at this <;> omega
 have r2 := fun w' (hb : Below w.heap.size w w') => Sa w' F hF A c (hmod.below hb)
 have n2 : ∀ w', cQ 103 #[nQ F.p, nQ M] w' (Ba (iv F.q) w') := fun w' => by rw [hM]; exact Jd w' F hF
 have i2 := fun w' (hb : Below w.heap.size w w') => Jz w' F hF A c (hmod.below hb)
 have o1 := sK r2
 have d3 := sK n2
 have m1 := sK i2
 have n1 := sK hM
 have z0 := sK w0
 rw [<- w0] at hmod
 clear r2 n2 i2 hM w0
 rw [e1] at o1 m1 ⊢
 unfold iv at *
 clear e1
 go_enter Tryz.func54, Tryz.ntmps54
 go_wp2_with fail
 obtain ⟨W, hW⟩ := xQ (w.alloc (.cells #[nQ F.p, nQ M, .slice A mL c] 24))
 have z1 : Below w.heap.size w W := by rw [hW]; exact Ac _ _
 have hC : ∀ wx, From W wx -> wx.cell? ⟨w.heap.size, 0, none⟩ = some (nQ F.p) ∧ wx.cell? ⟨w.heap.size, 1, none⟩ = some (nQ M) ∧ wx.cell? ⟨w.heap.size, 2, none⟩ = some (.slice A mL c) := fun wx hx => by
  refine ⟨?_, ?_, ?_⟩
  all_goals
   rw [Below.cell hx (by rw [hW]; simp), hW]; go_simp
 have HC := sK hC
 have e0 : Hid (∀ wx, From W wx -> Below w.heap.size w wx) := sK fun wx hx => z1.trans (qf hx (by rw [hW]; simp))
 rw [<- hW]
 clear hW hC z1
 refine (o1 W (e0 W (From.refl W))).mono ?_
 rintro e w1 ⟨rfl, c2⟩
 have m0 : From W w1 := c2
 obtain ⟨f1, g1, i1⟩ := HC w1 m0
 go_wp2_with fail
 refine (d3 w1).mono ?_
 rintro e v4 ⟨rfl, rfl⟩
 go_wp2_with fail
 refine (m1 w1 (e0 w1 m0)).mono ?_
 rintro e w2 ⟨gE, cE, rfl, hE, d2⟩
 have v1 : From W w2 := Aa d2 m0
 have c4 : w.heap.size <= gE := by
  obtain ⟨g9, h9, h8, _⟩ := hE.block (by omega); simp only [qc, qd, and_true] at h9; have := (e0 w1 m0).size; omega
 clear f1 g1 i1 c2 d2 m0
 have m3 := qbq (P := Tryz.prog) w2 22 3 (sQ gE) (F.q - 1) cE 0 0 Tryz.underlying22
 go_wp2
 clear m3
 have j3 : From w2 w2 := From.refl w2
 have f0 := sK v1
 have a3 := sK hmod
 clear hmod v1
 refine wpT 13 53 [.v (pQ w.heap.size), .v (nQ F.p), .v (.pointer (some ⟨w.heap.size, 1, none⟩)), .v (nQ M), .r (Kr) Kr.lasting, .v (.pointer (some ⟨w.heap.size, 2, none⟩)), .v (.slice A mL c), .r (On w2.heap.size mL (modL F)) On.lasting, .r (Oo w2.heap.size F mL M) Oo.lasting, .v (nQ F.q), .v (.slice (sQ gE) (F.q - 1) cE), .v (nQ F.q), .r (Xa w2.heap.size F.q) Xa.lasting] w2 (by kernel_rfl) (by kernel_rfl) (by kernel_rfl) rfl (From.drew j3) ?_
 simp only [Tk]
 iterate 4 (refine .z (fun wx hx _ hK => by first | (go_simp; exact Kz hK) | (obtain ⟨f1, g1, i1⟩ := HC wx (Aa hx f0.out); go_simp; exact Kz hK)) ?_; simp only [Pt])
 refine .r (fun wx hx hd KK hK => ?_) (fun r4 => ?_)
 ·clear hd
  go_simp; exact hK.out _ _ ⟨_, rfl⟩ (Ac _ _)
 simp only [Pt]
 iterate 2 (refine .z (fun wx hx _ hK => by first | (go_simp; exact Kz hK) | (obtain ⟨f1, g1, i1⟩ := HC wx (Aa hx f0.out); go_simp; exact Kz hK)) ?_; simp only [Pt])
 refine .r (fun wx hx hd KK hK => ?_) (fun s4 => ?_)
 ·obtain ⟨t1, rfl⟩ := hd _ (.head _) (by kernel_rfl)
  clear hd; refine Hg rfl _ _ 22 rfl i0 Tryz.underlying22 hi s2 t2 u2 t1 rfl A mL c (modL F) rfl (a3.below (e0 wx (Aa hx f0.out))) (by omega) ?_; intro A' c' w' h' s3 d1; exact hK.out _ _ ⟨A', c', rfl, h', fun b9 q4 e9 h9 => by obtain ⟨g8, e8, h8, _⟩ := (s3 h9).block h9; rw [e9] at e8; simp only [qc, qd] at e8; have := hx.size; omega⟩ d1
 simp only [Pt]
 refine .r (fun wx hx hd KK hK => ?_) (fun t4 => ?_)
 ·obtain ⟨k1, r1, rfl, a1, v2⟩ := hd _ (.head _) (by kernel_rfl)
  clear hd; go_simp; exact hK.out _ _ ⟨k1, r1, rfl, a1, v2⟩ (bR)
 simp only [Pt]
 iterate 3 (refine .z (fun _ _ _ hK => by go_simp; exact Kz hK) ?_; simp only [Pt])
 refine .r (fun wx hx hd KK hK => ?_) (fun u4 => ?_)
 ·clear hd
  refine Ug rfl _ _ 22 rfl i0 Tryz.underlying22 hi s2 t2 u2 F.q rfl rfl (by omega) ?_; intro w1 t3 d1 n4; exact hK.out _ _ ⟨_, rfl, hx.size, t3.mono hx.size⟩ d1
 simp only [Pt]
 refine .nil fun w3 x0 hd => ?_
 obtain ⟨t1, rfl⟩ := hd _ (.tail _ (.tail _ (.tail _ (.head _))))
 obtain ⟨k1, r1, rfl, a1, v2⟩ := hd _ (.tail _ (.tail _ (.head _)))
 obtain ⟨y0, s1, rfl, b1, x3⟩ := hd _ (.tail _ (.head _))
 obtain ⟨c0, rfl, v3, q0⟩ := hd _ (.head _)
 clear hd
 go_wp2
 have x2 : Hid (∀ b a0, y0 = some ⟨b, a0, none⟩ -> 0 < mL -> b ≠ c0) := sK fun b a0 e v0 e2 => by
  subst e2; have h9 := b1.cells v0; obtain ⟨b', p4, e3, _, g2⟩ := h9; rw [e] at e3; simp only [qc, qd, and_true] at e3; obtain ⟨rfl, rfl⟩ := e3; have h8 := g2 0 v0; have m2 := Fp F; rw [<- z0.out] at m2; have q3 : F.m ≠ 0 := by intro h7; rw [if_pos h7] at m2; omega
  have hh := q0.heap; have : w3.cell? ⟨b, a0 + 0, none⟩ = (ivs (List.replicate F.q 0))[a0 + 0]? := by simp [World.cell?, hh]
  rw [this] at h8; obtain ⟨h6, h5⟩ := Lb h8; have h4 := qY hF q3; simp only [Value.int.injEq, true_and] at h5; have h3 : (List.replicate F.q 0).getD (a0 + 0) 0 = 0 := by
   rw [qa, List.getElem?_replicate]; split <;> rfl
  rw [h3] at h5; omega
 obtain ⟨w4, o0⟩ := xQ (w3.alloc (.cells #[nQ F.p, nQ M, .slice y0 mL s1, nQ F.q, .slice (sQ gE) (F.q - 1) cE, .slice (sQ c0) F.q F.q] 162))
 have r0 : Below w3.heap.size w3 w4 := by rw [o0]; exact Ac _ _
 have o4 : w3.heap.size < w4.heap.size := by rw [o0]; simp
 have f2 : w4.cell? ⟨w3.heap.size, 0, none⟩ = some (nQ F.p) ∧ w4.cell? ⟨w3.heap.size, 1, none⟩ = some (nQ M) ∧ w4.cell? ⟨w3.heap.size, 2, none⟩ = some (.slice y0 mL s1) ∧ w4.cell? ⟨w3.heap.size, 3, none⟩ = some (nQ F.q) ∧ w4.cell? ⟨w3.heap.size, 4, none⟩ = some (.slice (sQ gE) (F.q - 1) cE) ∧ w4.cell? ⟨w3.heap.size, 5, none⟩ = some (.slice (sQ c0) F.q F.q) := by
  rw [o0]; refine ⟨?_, ?_, ?_, ?_, ?_, ?_⟩ <;> go_simp
 rw [<- o0]
 clear o0
 have b0 := sK f2
 have u1 := (hE.below x0).rd.below r0
 have y1 := b1.below r0
 have x1 := q0.below r0
 have a4 : c0 < w3.heap.size := by
  obtain ⟨g9, h9, _, i3⟩ := q0.block (by omega); simp only [qc, qd, and_true] at h9; omega
 have b4 : gE < w2.heap.size := by
  obtain ⟨g9, h9, _, i3⟩ := hE.block (by omega); simp only [qc, qd, and_true] at h9; omega
 have e4 : gE ≠ c0 := by omega
 have a2 : Below w.heap.size w w4 := (e0 _ f0.out).trans ((qcz x0 (r0.mono x0.size)).mono (e0 _ f0.out).size)
 have l1 := sK a2
 have g3 : Hid (∀ k, F.pw F.x k < F.q) := sK fun k => hF.pw_lt _ k
 have y2 := sK u1
 have z2 := sK y1
 have c3 := sK x3
 have d4 : w2.heap.size <= c0 := v3
 clear f2 u1 y1 b1 a1 hE x0 a2 q0
 have l4 : F.q - 1 < 1000000 := by omega
 go_loopw [39] (fun kv wr => ∃ k : Nat, k <= F.q - 1 ∧ kv = nQ k ∧ OwnN wr w2.heap.size (sQ c0) F.q F.q (logL F k) ∧ w4.grownBy wr (some c0)) (fun kv _ => F.q - 1 - (intOf kv).toNat)
 case atStart => exact ⟨0, qe _, rfl, x1, Uq _ _⟩
 case round =>
  clear x1; obtain ⟨k, hk, rfl, hL, hg⟩ := hrel; have l0 := y2.kept hg (fun b a0 e _ => by simp only [qc, qd, and_true] at e; omega); have d0 : ∀ o v, w4.cell? ⟨w3.heap.size, o, none⟩ = some v -> wr.cell? ⟨w3.heap.size, o, none⟩ = some v := fun o v h9 => hg.cell h9 (fun e9 => by simp at e9; omega)
  by_cases g0 : k < F.q - 1
  ·have y3 := d0 _ _ b0.out.2.2.2.2.2
   have l3 := l0.cellAt g0; rw [F.exps_get _ g0, Zq] at l3; have hY := g3 k; have g2 := hL.cell hY; have z3 := hL.free (F.pw F.x k); have p2 := hL.set (F.pw F.x k) (x := k) (by omega); have j2 := hg.trans (Ad wr c0 (F.pw F.x k) (nQ k)); have f3 : Hid (OwnN (wr.setCell ⟨c0, F.pw F.x k, none⟩ (nQ k)) w2.heap.size (sQ c0) F.q F.q (logL F (k + 1))) := sK p2; clear p2 d0 l0 hL; generalize F.pw F.x k = Y at *; go_wp2; go_roundw
   case rel => exact ⟨k + 1, by omega, by go_num, f3.out, j2⟩
   case measure => simp [intOf]; omega
  ·obtain rfl : k = F.q - 1 := by omega
   have k3 : Below w.heap.size w wr := l1.grown hg (by have := l1.size; omega) (fun k9 p3 => by
    have : k9 = c0 := by simpa using p3.symm
    have := (e0 _ f0.out).size; omega)
   have c1 := z2.kept hg (fun b a0 e v0 => x2 b a0 e v0); have o3 : GFat wr w3.heap.size F := by
    refine ⟨hF, by have := hg.size; omega, d0 _ _ b0.out.1, ?_, ?_, d0 _ _ b0.out.2.2.2.1, ⟨_, _, d0 _ _ b0.out.2.2.2.2.1, l0⟩, ⟨_, _, _, d0 _ _ b0.out.2.2.2.2.2, hL.rd, Ol hF⟩⟩
    ·rw [<- n1.out]; exact d0 _ _ b0.out.2.1
    ·rw [<- z0.out]; exact ⟨_, _, d0 _ _ b0.out.2.2.1, c1⟩
   have f4 : w.heap.size <= w2.heap.size := (e0 _ f0.out).size; have l2 : w.heap.size <= w3.heap.size := by omega
   have n3 : ∀ w' : WQ, (∀ i, w.heap.size <= i -> i < wr.heap.size -> w'.heap[i]? = wr.heap[i]?) -> wr.heap.size <= w'.heap.size -> GFat w' w3.heap.size F := fun w' t0 j1 => by
    have j2 := hg.size; have j0 : ∀ o v, w4.cell? ⟨w3.heap.size, o, none⟩ = some v -> w'.cell? ⟨w3.heap.size, o, none⟩ = some v := fun o v h9 => (World.cell?_of_block (w := wr) (t0 _ l2 (by simp only; omega))).trans (d0 o v h9)
    refine ⟨hF, by omega, j0 _ _ b0.out.1, ?_, ?_, j0 _ _ b0.out.2.2.2.1, ⟨_, _, j0 _ _ b0.out.2.2.2.2.1, l0.moved t0 j1 (fun b a0 e _ => by simp only [qc, qd, and_true] at e; omega)⟩, ⟨_, _, _, j0 _ _ b0.out.2.2.2.2.2, hL.rd.moved t0 j1 (fun b a0 e _ => by simp only [qc, qd, and_true] at e; omega), Ol hF⟩⟩
    ·rw [<- n1.out]; exact j0 _ _ b0.out.2.1
    ·rw [<- z0.out]; exact ⟨_, _, j0 _ _ b0.out.2.2.1, c1.moved t0 j1 (fun b a0 e h0 => by have := c3 b a0 e h0; omega)⟩
   clear d0 l0 hL c1; generalize F.q - 1 = q1 at *; go_wp2; go_ret2; exact ⟨_, rfl, l2, ⟨o3, n3⟩, k3⟩
theorem Kv (w : WQ) (F : FD) (hF : F.Ok) (A : OQ) (c : Nat) (hmod : RdN w A (modL F).length c (modL F)) :
  cQ 54 #[Ax F A c] w (Ga F w) := (Mp w F hF A c hmod).mono fun _ _ ⟨b, h1, h2, h3, h4⟩ => ⟨b, h1, h2, h3.gf, h4⟩
section
variable {w w' : WQ} {base b : Nat} {F : FD}
theorem GFo.below (h : GFo w base b F) (hb : Below w.heap.size w w') : GFo w' base b F :=
 ⟨h.gf.below hb, fun w2 h1 h2 => h.far w2 (fun i hi hl => (h1 i hi (qk hl hb.size)).trans (hb.block i hl)) (qs hb.size h2)⟩
theorem GFo.kept (h : GFo w base b F) {r : Nat} (hr : r < base) (hg : w.grownBy w' (some r)) : GFo w' base b F :=
 have e : ∀ i, base <= i -> i < w.heap.size -> w'.heap[i]? = w.heap[i]? := fun i hi hl => hg.block i hl (fun e => by simp only [qc] at e; omega)
 ⟨h.far w' e hg.size, fun w2 h1 h2 => h.far w2 (fun i hi hl => (h1 i hi (qk hl hg.size)).trans (e i hi hl)) (qs hg.size h2)⟩
theorem GFo.set (h : GFo w base b F) {r : Nat} (hr : r < base) (k : Nat) (v : Value) : GFo (w.setCell ⟨r, k, none⟩ v) base b F := h.kept hr (Ad w r k v)
theorem GFo.mono (h : GFo w base b F) {B : Nat} (hB : B <= base) : GFo w B b F := ⟨h.gf, fun w2 h1 h2 => h.far w2 (fun i hi hl => h1 i (qs hB hi) hl) h2⟩
end
structure RdM (w : WQ) (A : OQ) (n c : Nat) (R : LQ) : Prop where
 len : R.length = n
 cap : n <= c
 max : c <= maxLen
 cells : 0 < n -> ∃ b a0, A = some ⟨b, a0, none⟩ ∧ b < w.heap.size ∧ ∀ i, i < n -> ∃ Ai ci, w.cell? ⟨b, a0 + i, none⟩ = some (.slice Ai (R.getD i []).length ci) ∧ RdN w Ai (R.getD i []).length ci (R.getD i [])
section
variable {w w' : WQ} {A : OQ} {n c : Nat} {R : LQ}
theorem RdM.le63 (h : RdM w A n c R) : n <= 9223372036854775807 := by
 have := h.cap; have := h.max; unfold maxLen at this; omega
theorem RdM.at (h : RdM w A n c R) {i : Nat} (hi : i < n) : ∃ b a0 Ai ci, A = some ⟨b, a0, none⟩ ∧ b < w.heap.size ∧ w.cell? ⟨b, a0 + i, none⟩ = some (.slice Ai (R.getD i []).length ci) ∧ RdN w Ai (R.getD i []).length ci (R.getD i []) := by
 obtain ⟨b, a0, e, hb, hc⟩ := h.cells (by omega)
 obtain ⟨Ai, ci, h1, h2⟩ := hc i hi
 exact ⟨b, a0, Ai, ci, e, hb, h1, h2⟩
theorem RdM.keep (h : RdM w A n c R) {B : Nat} (hb : Below B w w') (hB : w.heap.size <= B) : RdM w' A n c R :=
 ⟨h.len, h.cap, h.max, fun hn => by
  obtain ⟨b, a0, e, b0, hc⟩ := h.cells hn; refine ⟨b, a0, e, qk b0 hb.size, fun i hi => ?_⟩; obtain ⟨Ai, ci, h1, h2⟩ := hc i hi; exact ⟨Ai, ci, (hb.cell (p := ⟨b, a0 + i, none⟩) (qk b0 hB)).trans h1, h2.keep hb hB⟩⟩
theorem RdM.below (h : RdM w A n c R) (hb : Below w.heap.size w w') : RdM w' A n c R := h.keep hb (qb _)
theorem RdM.empty (w : WQ) (A : OQ) (c : Nat) (hc : c <= maxLen) : RdM w A 0 c [] := ⟨rfl, qe _, hc, fun h => absurd h (by omega)⟩
theorem RdM.head (h : RdM w A n c R) {m d : Nat} (hm : m <= n) (hmd : m <= d) (hd : d <= c) : RdM w A m d (R.take m) :=
 ⟨by rw [Sq, h.len]; omega, hmd, qs hd h.max, fun h0 => by
  obtain ⟨b, a0, e, b0, hc⟩ := h.cells (by omega); refine ⟨b, a0, e, b0, fun i hi => ?_⟩; rw [Hs _ _ hi]; exact hc i (by omega)⟩
theorem Mat.els {F : FD} {m : Nat} (h : Mat F.fld m R) {i : Nat} (hi : i < R.length) : Els F (R.getD i []) := fun x hx => (h _ (Ap hi _)).2 x hx
end
structure Az (w : WQ) (base g n c : Nat) (vs : VQ) (R : LQ) : Prop where
 grid : Grid w base 22 3 1 (sQ g) n c vs (R.map ivs)
 sm : ∀ r ∈ R, Sm r
section
variable {w w' : WQ} {base g n c : Nat} {vs : VQ} {R : LQ}
theorem Bu (R : LQ) (i : Nat) : (R.map ivs).getD i [] = ivs (R.getD i []) := by
 simp only [qa, List.getElem?_map]
 cases R[i]? <;> rfl
theorem Az.len (h : Az w base g n c vs R) : R.length = n := by
 have := h.grid.lenR
 simpa using this
theorem Az.smAt (h : Az w base g n c vs R) (i : Nat) : Sm (R.getD i []) := by
 by_cases hi : i < R.length
 ·exact h.sm _ (Ap hi _)
 ·rw [qa, Mq (by omega)]; exact Sm.nil
theorem Az.below (h : Az w base g n c vs R) (hb : Below w.heap.size w w') : Az w' base g n c vs R := ⟨h.grid.below hb, h.sm⟩
theorem Az.alloc (h : Az w base g n c vs R) (o : Obj) : Az (w.alloc o) base g n c vs R := h.below (Ac w o)
theorem Az.lower (h : Az w base g n c vs R) {b' : Nat} (hb : b' <= base) : Az w b' g n c vs R := ⟨h.grid.lower hb, h.sm⟩
theorem Az.head (h : Az w base g n c vs R) : base <= g ∧ g < w.heap.size ∧ n <= c ∧ c <= maxLen := by
 rcases h.grid.head with ⟨h1, _⟩ | ⟨g', h1, h2, h3, h4, h5⟩
 ·cases h1
 ·simp only [qc, qd, and_true] at h1
  subst h1; exact ⟨h2, h3, h4, h5⟩
theorem Az.row (h : Az w base g n c vs R) {i : Nat} (hi : i < n) (hne : 0 < (R.getD i []).length) :
  ∃ b d, vs.getD i undef = .slice (sQ b) (R.getD i []).length d ∧ w.cell? ⟨g, i, none⟩ = some (.slice (sQ b) (R.getD i []).length d) ∧ base <= b ∧ b ≠ g ∧
   OwnN w base (sQ b) (R.getD i []).length d (R.getD i []) := by
 rcases h.grid.form hi with ⟨_, h6⟩ | ⟨b, m, d, h5, h6, h7, h8, h9, h10⟩
 ·rw [Bu] at h6
  have h7 : (R.getD i []).length = 0 := by have := congrArg List.length h6; rwa [Cl] at this
  omega
 ·rw [Bu, Cl, qbw] at h10
  subst h10; have hr := h.grid.row hi h5; rw [Bu] at hr; refine ⟨b, d, h5, by rw [h.grid.slot hi, h5], h6, ?_, hr, h.smAt i⟩; have := (h.grid.apart i hi b (by rw [h5]; rfl)).1; simp [Value.ownBlock] at this; exact fun e => this e.symm
theorem Az.slotFree (h : Az w base g n c vs R) (i : Nat) : w.frozen? ⟨g, i, none⟩ = false := h.grid.slotFree i
theorem Az.store (h : Az w base g n c vs R) {i : Nat} (hi : i < n) {b m d : Nat} (hv : vs.getD i undef = .slice (sQ b) m d) (k : Nat) {x : Nat} (hx : x < 1000000) :
  Az (w.setCell ⟨b, k, none⟩ (nQ x)) base g n c vs (R.set i ((R.getD i []).set k x)) := by
 refine ⟨?_, fun r hr => ?_⟩
 ·have := h.grid.store hi hv k (nQ x)
  rw [Bu, cX, <- List.map_set] at this; exact this
 ·rcases Oq hr with h1 | h1
  ·exact h.sm _ h1
  ·rw [h1]; exact (h.smAt i).set k hx
theorem Az.put (h : Az w base g n c vs R) {i : Nat} (hi : i < n) {b m d : Nat} {l : NQ} (hv : OwnN w base (sQ b) m d l) (hne : b ≠ g ∧ ∀ j, j < n -> j ≠ i -> (vs.getD j undef).ownBlock ≠ some b) :
  Az (w.setCell ⟨g, i, none⟩ (.slice (sQ b) m d)) base g n c (vs.set i (.slice (sQ b) m d)) (R.set i l) := by
 refine ⟨?_, fun r hr => ?_⟩
 ·have := h.grid.put hi hv.row (fun b' c0 => by
   have : b = b' := by simpa [Value.ownBlock] using c0
   subst this; exact hne)
  rwa [<- List.map_set] at this
 ·rcases Oq hr with h1 | h1
  ·exact h.sm _ h1
  ·rw [h1]; exact hv.sm
theorem Az.blkLt (h : Az w base g n c vs R) {j b : Nat} (hj : j < n) (e : (vs.getD j undef).ownBlock = some b) : base <= b ∧ b < w.heap.size := by
 rcases h.grid.form hj with ⟨h1, _⟩ | ⟨b', m, d, h1, h2, h3, _⟩
 ·rw [h1] at e; cases e
 ·rw [h1] at e
  have : b' = b := by simpa [Value.ownBlock] using e
  subst this; exact ⟨h2, h3⟩
theorem Az.rd (h : Az w base g n c vs R) : RdM w (sQ g) n c R := by
 obtain ⟨h1, h2, h3, h4⟩ := h.head
 refine ⟨h.len, h3, h4, fun hn => ⟨g, 0, rfl, h2, fun i hi => ?_⟩⟩
 rw [Zq]
 rcases Xq (R.getD i []).length with h0 | h0
 ·have hl : R.getD i [] = [] := Lq h0
  rcases h.grid.form hi with ⟨h5, _⟩ | ⟨b, m, d, h5, h6, h7, h8, h9, h10⟩
  ·exact ⟨none, 0, by rw [h.grid.slot hi, h5, hl]; rfl, by rw [hl]; exact RdN.nil w 0 (qe _)⟩
  ·rw [Bu, Cl, qbw] at h10
   refine ⟨_, d, by rw [h.grid.slot hi, h5, h10], ?_⟩; rw [hl]; exact RdN.empty w _ d h9
 ·obtain ⟨b, d, _, h6, _, _, h7⟩ := h.row hi h0
  exact ⟨_, d, h6, h7.rd⟩
end
def RetC (n : Nat) (l : NQ) (w : WQ) (e : Ending) (w' : WQ) : Prop :=
 ∃ A c, e = .returned (.slice A n c) ∧ RdN w' A n c l ∧ (0 < n -> OwnN w' w.heap.size A n c l) ∧ Below w.heap.size w w'
theorem Gn (w : WQ) (A : OQ) (n c : Nat) (l : NQ) (hr : RdN w A n c l) (hn : n <= 1000) : cQ 125 #[.slice A n c] w (RetC n l w) := by
 obtain ⟨i0, hi, d1, f1, g1⟩ := info_parts Bj
 have n1 := qbq (P := Tryz.prog) w 22 3 A n c 0 0 Tryz.underlying22
 cases A with
 | none =>
  have x0 : n = 0 := by
   rcases Xq n with h0 | h0
   ·exact h0
   ·obtain ⟨_, _, h1, _⟩ := hr.cells h0; cases h1
  subst x0; have hl : l = [] := Lq hr.len; subst hl; go_enter Tryz.func125, Tryz.ntmps125; go_wp2; go_ret; exact ⟨none, 0, rfl, RdN.nil w 0 (qe _), fun h => absurd h (by omega), bR⟩
 | some a =>
  go_enter Tryz.func125, Tryz.ntmps125; go_wp2_with (at_builtin; refine Er rfl _ _ 22 rfl i0 Tryz.underlying22 hi d1 f1 g1 _ rfl _ n c l rfl (hr.alloc _) (by omega) ?_; intro A' c' w' h1 h2 h3); go_ret; exact ⟨A', c', rfl, h1, fun h0 => (h2 h0).mono (by simp), (Ac _ _).trans (h3.mono (by simp))⟩
theorem Eg : (Tryz.prog.info? 22).map (fun i => (i.zero, i.size, i.bytes)) = some (some (eQ), 1, 24) := by kernel_rfl
def RetG (n : Nat) (R : LQ) (w : WQ) (e : Ending) (w' : WQ) : Prop :=
 ∃ vs, e = .returned (.slice (sQ w.heap.size) n n) ∧ Az w' w.heap.size w.heap.size n n vs R ∧ Below w.heap.size w w'
theorem Dw {α : Type} (l : List α) (d : α) {k : Nat} (h : k < l.length) : l.take (k + 1) = l.take k ++ [l.getD k d] := by
 rw [qae h, qa, qh h]; rfl
theorem Ql (w : WQ) (A : OQ) (n c m : Nat) (R : LQ) (hR : RdM w A n c R) (hn : n <= 1000) (hm : ∀ r ∈ R, r.length = m) (hm0 : 0 < m) (hm9 : m <= 1000) : cQ 122 #[.slice A n c] w (RetG n R w) := by
 obtain ⟨i1, hj, a1, b1, c1⟩ := info_parts Eg
 have b0 := sK hR.len
 have HM := sK hm
 clear hm
 go_enter Tryz.func122, Tryz.ntmps122
 go_wp2_with (at_make; refine Ds rfl _ _ _ 22 rfl i1 (eQ) 24 Tryz.underlying25 hj a1 b1 c1 rfl _ _ n rfl rfl (by omega) (by omega) ?_; intro w1 o0 f0 z0)
 have d0 : Az w1 w.heap.size w.heap.size n n (List.replicate n (eQ)) (List.replicate n []) := by
  refine ⟨⟨o0, by simp, fun i hi => ⟨0, ?_⟩, fun i hi b hb => ?_⟩, fun r hr => by rw [(qav.1 hr).2]; exact Sm.nil⟩
  ·rw [Bu]
   have e1 : (List.replicate n (Value.slice none 0 0)).getD i undef = eQ := by simp [qa, hi]
   have e2 : (List.replicate n ([] : NQ)).getD i [] = [] := by simp [qa, hi]
   rw [e1, e2]; exact Rq _ _ _ _
  ·have e1 : (List.replicate n (Value.slice none 0 0)).getD i undef = eQ := by simp [qa, hi]
   rw [e1] at hb; cases hb
 have n0 : w.heap.size < w1.heap.size := by omega
 clear o0 z0
 have k1 := hR.le63
 go_loopw [11] (fun kv wr => ∃ (k : Nat) (vs : VQ), k <= n ∧ kv = nQ k ∧ Az wr w.heap.size w.heap.size n n vs (R.take k ++ List.replicate (n - k) []) ∧ Below w.heap.size w wr ∧ w.heap.size < wr.heap.size) (fun kv _ => n - (intOf kv).toNat)
 case atStart => exact ⟨0, _, qe _, rfl, by simpa using d0, f0, n0⟩
 case round =>
  clear d0 f0 n0; obtain ⟨k, vs, hk, rfl, hG, hb, m0⟩ := hrel
  by_cases hkn : k < n
  ·obtain ⟨b, j1, Ai, ci, rfl, v0, g0, c0⟩ := hR.at hkn
   have hc := (hb.cell (p := ⟨b, j1 + k, none⟩) v0).trans g0; have l0 : (R.getD k []).length = m := HM _ (Ap (by rw [b0.out]; exact hkn) _); rw [l0] at hc c0; have w0 := Gn wr Ai m ci _ (c0.keep hb (qb _)) (by omega); have HS := sK (Dw R [] (k := k) (by rw [b0.out]; exact hkn)); have j0 := hG.slotFree k; have q0 := Fd ([] : NQ) (pre := R.take k) (n := n) (k := k) (by rw [Sq, b0.out]; omega) hkn (R.getD k []); have t0 := sK q0; clear q0 g0 c0 l0; have HG := sK hG; have r0 := hG.grid.slot hkn; clear hG; generalize R.getD k [] = r at *; go_wp2_with (go_at_call 125; refine w0.mono ?_; rintro e w2 ⟨A2, c2, rfl, q1, y0, a0⟩; have r1 := (a0.cell (p := ⟨w.heap.size, k, none⟩) m0).trans r0; have o1 := (a0.frozen (p := ⟨w.heap.size, k, none⟩) m0).trans j0; clear r0 j0); have ho := y0 hm0; obtain ⟨b2, rfl, l1, m1⟩ := ho.block hm0; have e0 := (HG.below a0).put hkn (ho.mono hb.size) ⟨by omega, fun j hj _ e => by have := HG.blkLt hj e; omega⟩; rw [t0.out, <- HS.out] at e0; go_roundw
   case rel => exact ⟨k + 1, _, by omega, by go_num, e0, (hb.trans (a0.mono hb.size)).setCell (p := ⟨w.heap.size, k, none⟩) (qb _) _, by have := a0.size; simp [World.setCell]; omega⟩
   case measure => simp [intOf]; omega
  ·obtain rfl : k = n := by omega
   rw [qq (by rw [b0.out]; exact qb _), qaa, qao, qas] at hG; go_wp2; go_ret; exact ⟨vs, rfl, hG, hb⟩
end Go.Proofs.YtoalkldfhkabnaaGreatDoor
