/- Part of WholeTraces. -/
import Derived.Deep.RegionLaw
import Derived.Deep.CutRange
import Derived.Test.YtoalkldfhkabnaaGreatDoorW00
import Derived.Test.YtoalkldfhkabnaaGreatDoorW06
import Derived.Test.YtoalkldfhkabnaaGreatDoorW10
import Derived.Test.YtoalkldfhkabnaaGreatDoorW27
set_option linter.all false
set_option maxRecDepth 10000
set_option maxHeartbeats 16000000
namespace Go.Proofs.YtoalkldfhkabnaaGreatDoor
open Go.RowKit Fq
structure Cc (w : WQ) (X : Nat -> Prop) (A : OQ) (n c : Nat) (R : LQ) : Prop where
 len : R.length = n
 own : ∃ vs, w.ownsRow 0 22 1 (.slice A n c) n vs ∧ (∀ b, (Value.slice A n c).ownBlock = some b -> ¬ X b) ∧ ∀ i, i < n -> ∃ Ai ci, vs.getD i undef = .slice Ai (R.getD i []).length ci ∧ RdN w Ai (R.getD i []).length ci (R.getD i []) ∧
  ∀ b a0, Ai = some ⟨b, a0, none⟩ -> 0 < (R.getD i []).length -> (Value.slice A n c).ownBlock ≠ some b ∧ ¬ X b
theorem Rb {w w' : WQ} {A : OQ} {m d : Nat} {u : NQ} (hu : RdN w A m d u) {r : Option Nat} (hg : w.grownBy w' r) (hn : ∀ b a0, A = some ⟨b, a0, none⟩ -> 0 < m -> r ≠ some b) : RdN w' A m d u := by
 cases r with
 | none => exact hu.below ⟨hg.os, hg.tape, hg.output, hg.size, fun k hk => hg.block k hk (by simp)⟩
 | some r => exact hu.kept hg fun b a0 e hm e2 => hn b a0 e hm (by rw [e2])
section
variable {w w' : WQ} {X : Nat -> Prop} {n c : Nat} {A : OQ} {R : LQ}
theorem Cc.nil (w : WQ) (X : Nat -> Prop) : Cc w X none 0 0 [] := ⟨rfl, [], Rq w 0 _ 1, fun b h => by simp [Value.ownBlock] at h, fun i hi => absurd hi (by omega)⟩
theorem Cc.grown (h : Cc w X A n c R) {r : Option Nat} (hg : w.grownBy w' r) (hr : ∀ b, r = some b -> X b) : Cc w' X A n c R := by
 obtain ⟨vs, h1, h2, h3⟩ := h.own
 refine ⟨h.len, vs, h1.kept hg ?_, h2, fun i hi => ?_⟩
 ·cases hob : (Value.slice A n c).ownBlock with
  | none => exact .inl (by simpa using hob)
  | some b => exact .inr fun e => h2 b hob (hr b (by rw [<- e]))
 ·obtain ⟨Ai, ci, h4, h5, h6⟩ := h3 i hi
  exact ⟨Ai, ci, h4, Rb h5 hg fun b a0 e hm e2 => (h6 b a0 e hm).2 (hr b e2), h6⟩
theorem Cc.below (h : Cc w X A n c R) (hb : From w w') : Cc w' X A n c R := h.grown (Aw hb none) fun b e => by cases e
theorem Cc.head (h : Cc w X A n c R) : n <= c ∧ c <= maxLen := by
 obtain ⟨vs, h1, _⟩ := h.own
 rcases h1.2 with ⟨h2, h3⟩ | ⟨g, cap, cur, h2, _, _, h3, h4, _⟩
 ·simp only [qm] at h2
  rw [h3, h2.2.2]; exact ⟨qb _, by unfold maxLen; omega⟩
 ·simp only [qm] at h2
  rw [h2.2.2]; exact ⟨h3, h4⟩
theorem Cc.lt (h : Cc w X A n c R) {b : Nat} (e : (Value.slice A n c).ownBlock = some b) : b < w.heap.size := by
 obtain ⟨vs, h1, _⟩ := h.own
 exact (h1.lt b e).2
theorem Cc.rd (h : Cc w X A n c R) : RdM w A n c R := by
 refine ⟨h.len, h.head.1, h.head.2, fun h0 => ?_⟩
 obtain ⟨vs, h1, _, h2⟩ := h.own
 obtain ⟨g, cap, hv, _, f0⟩ := h1.form h0
 simp only [qm, true_and] at hv
 obtain ⟨rfl, rfl⟩ := hv
 refine ⟨g, 0, rfl, f0, fun i hi => ?_⟩
 obtain ⟨Ai, ci, h3, h4, _⟩ := h2 i hi
 have l0 : vs.length = n := by have := h1.1; omega
 refine ⟨Ai, ci, ?_, h4⟩
 have h6 := h1.cellAt i (by omega)
 rw [Zq, h6, <- h3]
 simp [qa, l0, hi]
theorem Cc.less (h : Cc w X A n c R) {Y : Nat -> Prop} (hY : ∀ b, Y b -> X b ∨ w.heap.size <= b) : Cc w Y A n c R := by
 obtain ⟨vs, h1, h2, h3⟩ := h.own
 refine ⟨h.len, vs, h1, fun b e hb => ?_, fun i hi => ?_⟩
 ·rcases hY b hb with h4 | h4
  ·exact h2 b e h4
  ·have := (h1.lt b e).2; omega
 ·obtain ⟨Ai, ci, h4, h5, h6⟩ := h3 i hi
  refine ⟨Ai, ci, h4, h5, fun b a0 e hm => ⟨(h6 b a0 e hm).1, fun hb => ?_⟩⟩
  rcases hY b hb with h7 | h7
  ·exact (h6 b a0 e hm).2 h7
  ·obtain ⟨b', j8, e', f0, _⟩ := h5.cells hm
   rw [e] at e'; simp only [qc, qd, and_true] at e'; omega
theorem Cc.snoc {vs : VQ} (hlen : R.length = n) (h1 : w.ownsRow 0 22 1 (.slice A n c) n vs) (h2 : ∀ b, (Value.slice A n c).ownBlock = some b -> ¬ X b)
  (h3 : ∀ i, i < n -> ∃ Ai ci, vs.getD i undef = .slice Ai (R.getD i []).length ci ∧ RdN w Ai (R.getD i []).length ci (R.getD i []) ∧ ∀ b a0, Ai = some ⟨b, a0, none⟩ -> 0 < (R.getD i []).length -> (Value.slice A n c).ownBlock ≠ some b ∧ ¬ X b)
  {Ai : OQ} {ci : Nat} {l : NQ} (hr : RdN w Ai l.length ci l) (hap : ∀ b a0, Ai = some ⟨b, a0, none⟩ -> 0 < l.length -> (Value.slice A n c).ownBlock ≠ some b ∧ ¬ X b) (hX : ∀ b, X b -> b < w.heap.size)
  {g cap : Nat} (h4 : w'.ownsRow 0 22 1 (.slice (sQ g) (n + 1) cap) (n + 1) (vs ++ [.slice Ai l.length ci])) (hg : w.grownBy w' (Value.slice A n c).ownBlock) (h5 : (Value.slice A n c).ownBlock = some g ∨ g = w.heap.size) :
  Cc w' X (sQ g) (n + 1) cap (R ++ [l]) := by
 have l0 : vs.length = n := by have := h1.1; omega
 have r4 : ∀ (B : OQ) (m d : Nat) (u : NQ), RdN w B m d u -> (∀ b a0, B = some ⟨b, a0, none⟩ -> 0 < m -> (Value.slice A n c).ownBlock ≠ some b ∧ ¬ X b) ->
   RdN w' B m d u ∧ ∀ b a0, B = some ⟨b, a0, none⟩ -> 0 < m -> (Value.slice (sQ g) (n + 1) cap).ownBlock ≠ some b ∧ ¬ X b := fun B m d u hu ha => by
  refine ⟨Rb hu hg fun b a0 e hm => (ha b a0 e hm).1, fun b a0 e hm => ⟨fun e2 => ?_, (ha b a0 e hm).2⟩⟩; have e3 : g = b := by simpa [Value.ownBlock] using e2
  rcases h5 with h5 | h5
  ·exact (ha b a0 e hm).1 (by rw [h5, e3])
  ·obtain ⟨b', j8, e', f0, _⟩ := hu.cells hm
   rw [e] at e'; simp only [qc, qd, and_true] at e'; omega
 refine ⟨by rw [Hq, hlen]; rfl, _, h4, fun b e hb => ?_, fun k hk => ?_⟩
 ·have e3 : g = b := by simpa [Value.ownBlock] using e
  rcases h5 with h5 | h5
  ·exact h2 b (by rw [h5, e3]) hb
  ·have := hX b hb; omega
 ·by_cases hkn : k < n
  ·obtain ⟨Aj, cj, h7, h8, h9⟩ := h3 k hkn
   have e1 : (R ++ [l]).getD k [] = R.getD k [] := by rw [qa, Pq (by rw [hlen]; exact hkn), qa]
   have e2 : (vs ++ [Value.slice Ai l.length ci]).getD k undef = vs.getD k undef := by rw [qa, Pq (by rw [l0]; exact hkn), qa]
   rw [e1, e2]; obtain ⟨m2, n2⟩ := r4 _ _ _ _ h8 h9; exact ⟨Aj, cj, h7, m2, n2⟩
  ·obtain rfl : k = n := by omega
   have e1 : (R ++ [l]).getD k [] = l := by rw [qa, Gq (by rw [hlen]; exact qb _), hlen, qaa]; rfl
   have e2 : (vs ++ [Value.slice Ai l.length ci]).getD k undef = Value.slice Ai l.length ci := by rw [qa, Gq (by rw [l0]; exact qb _), l0, qaa]; rfl
   rw [e1, e2]; obtain ⟨m2, n2⟩ := r4 _ _ _ _ hr hap; exact ⟨Ai, ci, rfl, m2, n2⟩
end
def BasX (X : Nat -> Prop) (pb : Nat) (A2 : OQ) (b : Nat) : Prop := X b ∨ b = pb ∨ A2 = sQ b
structure Bas (w : WQ) (X : Nat -> Prop) (pb bG : Nat) (B : LQ) (P : NQ) : Prop where
 ex : ∃ A1 c1 A2 c2, Blk w pb #[pQ bG, .slice A1 B.length c1, .slice A2 P.length c2] ∧ Cc w (BasX X pb A2) A1 B.length c1 B ∧ OwnN w 0 A2 P.length c2 P ∧ A2 ≠ sQ pb ∧ (∀ b, A2 = sQ b -> ¬ X b)
 np : ¬ X pb
theorem Bas.below {w w' : WQ} {X : Nat -> Prop} {pb bG : Nat} {B : LQ} {P : NQ} (h : Bas w X pb bG B P) (hb : From w w') : Bas w' X pb bG B P := by
 obtain ⟨A1, c1, A2, c2, h1, h2, h3, h4⟩ := h.ex
 exact ⟨⟨A1, c1, A2, c2, h1.below hb, h2.below hb, h3.below hb, h4⟩, h.np⟩
theorem Bas.empty {w : WQ} {X : Nat -> Prop} {pb bG : Nat} (h : Blk w pb #[pQ bG, eQ, eQ]) (hX : ¬ X pb) : Bas w X pb bG [] [] :=
 ⟨⟨none, 0, none, 0, h, Cc.nil _ _, OwnN.nil _ _, by simp, fun b e => by cases e⟩, hX⟩
def Hi (F : FD) (x : Nat) (V U : NQ) : NQ := List.zipWith (fun y u => F.add y (F.neg (F.mul x u))) V U
theorem Ko {F : FD} {x : Nat} {V U : NQ} {m : Nat} (h1 : V.length = m) (h2 : U.length = m) : (Hi F x V U).length = m := by simp [Hi, h1, h2]
theorem Qd {F : FD} {x : Nat} {V U : NQ} {m k : Nat} (h1 : V.length = m) (h2 : U.length = m) (hk : k < m) : (Hi F x V U).getD k 0 = F.add (V.getD k 0) (F.neg (F.mul x (U.getD k 0))) := by
 simp [Hi, qa, List.getElem?_zipWith, show k < V.length by omega, show k < U.length by omega]
def redX (F : FD) (B : LQ) (P v : NQ) : Nat -> NQ
 | 0 => v
 | i + 1 => if (redX F B P v i).getD (P.getD i 0) 0 = 0 then redX F B P v i else Hi F ((redX F B P v i).getD (P.getD i 0) 0) (redX F B P v i) (B.getD i [])
theorem Ky {F : FD} {m : Nat} {B : LQ} (hM : Mat F.fld m B) {P v : NQ} (hv : v.length = m) : ∀ i, i <= B.length -> (redX F B P v i).length = m
 | 0, _ => hv
 | i + 1, h => by
  have ih := Ky hM (P := P) hv i (by omega); simp only [redX]; split
  ·exact ih
  ·exact Ko ih (hM.len (by omega))
theorem Pk {F : FD} (d0 : F.Ok) {m : Nat} {B : LQ} (hM : Mat F.fld m B) {P v : NQ} (hv : v.length = m) (hve : Els F v) : ∀ i, i <= B.length -> Els F (redX F B P v i)
 | 0, _ => hve
 | i + 1, h => by
  have ih := Pk d0 hM (P := P) hv hve i (by omega); have hl := Ky hM (P := P) hv i (by omega); simp only [redX]; split
  ·exact ih
  ·intro y hy
   obtain ⟨j, hj, rfl⟩ := Iq.1 hy; have g7 := Ko (F := F) (x := (redX F B P v i).getD (P.getD i 0) 0) hl (hM.len (i := i) (by omega)); have := Qd (F := F) (x := (redX F B P v i).getD (P.getD i 0) 0) (k := j) hl (hM.len (i := i) (by omega)) (by rw [<- g7]; exact hj); rw [qa, qh hj] at this; simp only [Option.getD_some] at this; rw [this]; exact d0.add_lt _ _
def addB (F : FD) (B : LQ) (P v : NQ) : Bool × (LQ × NQ) :=
 if fnz (redX F B P v B.length) < (redX F B P v B.length).length then (true, B ++ [Bb F.fld (F.inv ((redX F B P v B.length).getD (fnz (redX F B P v B.length)) 0)) (redX F B P v B.length)], P ++ [fnz (redX F B P v B.length)]) else (false, B, P)
theorem nR {l : NQ} (h : fnz l < l.length) : l.getD (fnz l) 0 ≠ 0 := by
 have := List.findIdx_getElem (p := (· != 0)) (xs := l) (w := h)
 rw [qa, qh h]
 exact bne_iff_ne.1 this
def bM (X : Nat -> Prop) (pb bG : Nat) (st : Bool × (LQ × NQ)) (w : WQ) (e : Ending) (w' : WQ) : Prop := e = .returned (.bool st.1) ∧ Bas w' X pb bG st.2.1 st.2.2 ∧ Kp X w w'
theorem kH (w0 w : WQ) (X : Nat -> Prop) (pb bG : Nat) (F : FD) (hG : GFat w0 bG F) (B : LQ) (P : NQ) (hB : Bas w0 X pb bG B P) (hX : ∀ b, X b -> b < w0.heap.size) (m : Nat) (hM : Mat F.fld m B) (hPB : P.length = B.length) (hPm : ∀ i, i < P.length -> P.getD i 0 < m) (h0 : From w0 w)
  (bv cv : Nat) (v : NQ) (hv : OwnN w w0.heap.size (sQ bv) m cv v) (hve : Els F v) (hm9 : m <= 1000) (hn9 : B.length <= 1000) :
  cQ 260 #[pQ pb, .slice (sQ bv) m cv] w (bM X pb bG (addB F B P v) w) := by
 obtain ⟨i0, x6, f8, g8, i8⟩ := info_parts Bj
 obtain ⟨i1, hj, a8, c8, d8⟩ := info_parts Eg
 obtain ⟨A1, c1, A2, c2, r2, l1, n4, j4, i4⟩ := hB.ex
 have d0 := hG.ok
 have q8 := d0.fldOk
 have hq := d0.q256
 have k3 := hB.np
 have l0 := hv.len
 have v7 := hv.le
 unfold maxLen at v7
 have q6 : w0.heap.size <= bv ∧ bv < w.heap.size := by
  rcases hv.form with ⟨h1, _⟩ | ⟨g, h1, h2, h3, _⟩
  ·cases h1
  ·simp only [qc, qd, and_true] at h1
   omega
 obtain ⟨n, hn⟩ := xQ B.length
 have d4 : Hid (∀ i, i <= n -> (redX F B P v i).length = m) := sK fun i hi => Ky hM l0 i (by omega)
 have j2 : Hid (∀ i, i <= n -> Els F (redX F B P v i)) := sK fun i hi => Pk d0 hM l0 hve i (by omega)
 have x5 : Hid (∀ i, i < n -> P.getD i 0 < m) := sK fun i hi => hPm i (by omega)
 have l5 : Hid (∀ i, i < n -> (B.getD i []).length = m ∧ ∀ j, j < m -> (B.getD i []).getD j 0 < F.q) := sK fun i hi => ⟨hM.len (by omega), fun j hj => hM.rowLt (by omega) _ (Ap (by rw [hM.len (by omega)]; exact hj) _)⟩
 have a2 : Hid (∀ wx, From w0 wx -> GFat wx bG F) := sK fun wx h9 => hG.below h9
 have t0 : Hid (∀ wx, From w0 wx -> Blk wx pb #[pQ bG, .slice A1 n c1, .slice A2 n c2]) := sK fun wx h9 => by
  have := r2.below h9; rw [hPB, <- hn] at this; exact this
 have o4 := l1.rd
 have HR : Hid (RdM w0 A1 n c1 B) := sK (by rw [hn]; exact o4)
 have w2 : OwnN w0 0 A2 n c2 P := by
  have := n4; rw [hPB, <- hn] at this; exact this
 have HP : Hid (OwnN w0 0 A2 n c2 P) := sK w2
 have n7 := w2.le
 unfold maxLen at n7
 have y4 := l1.head
 unfold maxLen at y4
 rw [<- hn] at y4
 have a6 : Hid (Cc w0 (BasX X pb A2) A1 n c1 B) := sK (by rw [hn]; exact l1)
 have t8 := r2.lt
 have y1 : Hid (addB F B P v = if fnz (redX F B P v n) < (redX F B P v n).length then (true, B ++ [Bb F.fld (F.inv ((redX F B P v n).getD (fnz (redX F B P v n)) 0)) (redX F B P v n)], P ++ [fnz (redX F B P v n)]) else (false, B, P)) := sK (by rw [hn]; rfl)
 have k5 := sK hB
 have HX := sK hX
 have x1 := sK j4
 have v3 := sK i4
 have HV := sK hv
 have H0 := sK h0
 have w5 : Hid (P.length = n) := sK (by rw [hn]; exact hPB)
 have x3 : Hid (B.length = n) := sK hn.symm
 have i5 : Hid (∀ x y, F.add x y < F.q) := sK fun x y => d0.add_lt x y
 have r5 : Hid (∀ x y, F.mul x y < F.q) := sK fun x y => d0.mul_lt x y
 unfold bM
 obtain ⟨st, s7⟩ := xQ (addB F B P v)
 rw [<- s7] at y1 ⊢
 have j1 := y1
 have s8 : n <= 1000 := by omega
 clear hB r2 l1 n4 w2 j4 i4 hG hM hPB hPm hv hve h0 hX o4 hn y1 hn9 l0
 go_enter Tryz.func260, Tryz.ntmps260
 have e0 := t0 w H0.out
 obtain ⟨p0, p1, p2⟩ := e0.t3
 clear e0
 go_wp2
 go_loopw [18] (fun s3 wr => ∃ i, i <= n ∧ s3 = nQ i ∧ OwnN wr w0.heap.size (sQ bv) m cv (redX F B P v i) ∧ From w0 wr ∧ w.grownBy wr (some bv)) (fun s3 _ => n - (intOf s3).toNat)
 case atStart => exact ⟨0, qe _, rfl, HV.out, H0.out, Uq _ _⟩
 case round =>
  clear p0 p1 p2; obtain ⟨i, hi, rfl, hO, hF, hg⟩ := hrel; obtain ⟨wo, rfl⟩ := xQ wr; have HO := sK hO; have HF := sK hF; have HG := sK hg; clear hO hF hg; have e0 := t0 wo HF.out; obtain ⟨p0, p1, p2⟩ := e0.t3; have n8 : bv < wo.heap.size := by have := HG.size; omega
  by_cases hin : i < n
  ·clear e0
   have y6 : (i : Int) < (n : Int) := by omega
   obtain ⟨rb, ro, Ai, ci, j6, q7, n3, r1⟩ := HR.at hin; subst j6; obtain ⟨s1, t7⟩ := l5 i hin; rw [s1] at n3 r1; have r7 := (HF.cell (p := ⟨rb, ro + i, none⟩) q7).trans n3; have o3 := r1.below HF.out; have z5 := sK r1; obtain ⟨p9, f6, l7⟩ := (HP.below HF.out).block (show 0 < n by omega); subst f6; have o7 := (HP.below HF.out).cell hin; have p7 := x5 i hin; have v8 : ((P.getD i 0 : Nat) : Int) < (m : Int) := by omega
   have v1 := HO.cell p7; have b5 : redX F B P v (i + 1) = if (redX F B P v i).getD (P.getD i 0) 0 = 0 then redX F B P v i else Hi F ((redX F B P v i).getD (P.getD i 0) 0) (redX F B P v i) (B.getD i []) := rfl; have k1 := sK b5; have e5 : (redX F B P v i).getD (P.getD i 0) 0 < F.q := (j2 i hi).at d0 _; obtain ⟨x, hx⟩ := xQ ((redX F B P v i).getD (P.getD i 0) 0); rw [<- hx] at v1 e5 k1; clear b5 hx n3 r1 l7; generalize P.getD i 0 = pi at *
   by_cases hx0 : x = 0
   ·have w7 : ((x : Int) != 0) = false := by rw [hx0]; rfl
    have k2 : Hid (redX F B P v (i + 1) = redX F B P v i) := sK (by rw [k1.out, if_pos hx0]); clear hx0; go_wp2; go_roundw
    case rel => exact ⟨i + 1, by omega, by go_num, by rw [k2.out]; exact HO.out, HF.out, HG.out⟩
    case measure => simp [intOf]; omega
   ·have w7 : ((x : Int) != 0) = true := by rw [bne_iff_ne]; omega
    have k2 : Hid (redX F B P v (i + 1) = Hi F x (redX F B P v i) (B.getD i [])) := sK (by rw [k1.out, if_neg hx0]); have v0 := sK (d4 i hi); have d6 := sK (j2 i hi); have f2 : Hid ((Hi F x (redX F B P v i) (B.getD i [])).length = m) := sK (Ko v0 s1); have t5 : Hid (∀ k, k < m -> (Hi F x (redX F B P v i) (B.getD i [])).getD k 0 = F.add ((redX F B P v i).getD k 0) (F.neg (F.mul x ((B.getD i []).getD k 0)))) := sK fun k hk => Qd v0 s1 hk
    have p8 := o3.cap; have r6 := o3.max; unfold maxLen at r6; clear hx0 k1 o3 s1; generalize Hi F x (redX F B P v i) (B.getD i []) = NX at *; generalize redX F B P v i = V at *; go_upto_region 7 with fail
    go_loopw [37] (fun kv wy => ∃ k : Nat, k <= m ∧ kv = nQ k ∧ OwnN wy w0.heap.size (sQ bv) m cv (mixL NX V k) ∧ From w0 wy ∧ wo.grownBy wy (some bv)) (fun kv _ => m - (intOf kv).toNat)
    case atStart => exact ⟨0, qe _, rfl, by rw [Cz]; exact HO.out, HF.out, Uq _ _⟩
    case round =>
     clear v1 o7 r7 p0 p1 p2; obtain ⟨k, hk, rfl, hO, hF, hg⟩ := hrel
     by_cases f0 : k < m
     ·have e7 : (k : Int) < (m : Int) := by omega
      have e0 := t0 wr hF; have p0 := e0.t1; have n1 := hO.cell f0; rw [Ep f2 v0 (qb k) f0] at n1; have j3 := t5 k f0; have y7 : V.getD k 0 < F.q := d6.at d0 k; have x7 := t7 k f0; have s2 := a2 wr hF; have p3 := fun (w' : WQ) (o6 : From wr w') => (hO.below o6).set k (x := NX.getD k 0) (by rw [j3]; have := i5 (V.getD k 0) (F.neg (F.mul x ((B.getD i []).getD k 0))); omega)
      rw [Cu f2 v0 f0] at p3; have d3 := hO.free k; obtain ⟨b8, o8, g6, _, s6⟩ := (z5.below hF).at f0; subst g6; have n0 := fun (wx : WQ) (hx : From wr wx) => Fy wx bG F (s2.below hx) x _ e5 x7
      have m0 := fun (wx : WQ) (hx : From wr wx) => Yb wx bG F (s2.below hx) _ _ y7 (r5 x ((B.getD i []).getD k 0))
      rw [<- j3] at m0; have c6 := sK p3; have HF := sK hF; have z1 := sK hg; have m7 : pb < wr.heap.size := by have := hF.size; omega
      have a3 : bv < wr.heap.size := by have := hg.size; omega
      clear p3 j3 s2 hO hF hg e0; generalize (B.getD i []).getD k 0 = u at *; generalize V.getD k 0 = y at *; generalize F.mul x u = xu at *; generalize NX.getD k 0 = nx at *; unfold iv at n0 m0; have m5 := sK n0; have n5 := sK m0; have z3 := sK n1; have o5 := sK d3; have v5 := sK p0; clear n0 m0 d3; go_upto_region 9 with fail
      clear s6 n1 p0; have k6 : From wr wr := From.refl wr; refine wpT 19 105 [.v (.slice (sQ bv) m cv), .v (nQ k), .v (pQ pb), .v (pQ pb), .v (pQ pb), .v (pQ bG), .v (.slice (sQ bv) m cv), .v (nQ k), .v (.pointer (some ⟨bv, k, none⟩)), .v (nQ y), .v (pQ pb), .v (pQ pb), .v (pQ pb), .v (pQ bG), .v (nQ x), .v (nQ u), .v (nQ xu), .v (nQ nx), .v (.pointer (some ⟨bv, k, none⟩))] wr (by kernel_rfl) (by kernel_rfl) (by kernel_rfl) rfl (From.drew k6) ?_; simp only [Tk]
      iterate 19 (refine .z (fun wx hx _ hK => by first | (go_simp; exact Kz hK) | (have hc := (hx.cell (p := ⟨pb, 0, none⟩) m7).trans v5.out; go_simp; exact Kz hK) | (have hc := (hx.cell (p := ⟨bv, k, none⟩) a3).trans z3.out; go_simp; exact Kz hK) | (go_simp; refine (m5 wx hx).mono ?_; rintro e w' ⟨rfl, j, rfl⟩; exact hK.out _ _ rfl (Ae (bR) _)) | (go_simp; refine (n5 wx hx).mono ?_; rintro e w' ⟨rfl, j, rfl⟩; exact hK.out _ _ rfl (Ae (bR) _))) ?_; simp only [Pt])
      refine .nil fun W5 d1 _ => ?_
      have n1 := (d1.cell (p := ⟨bv, k, none⟩) a3).trans z3.out; have d3 := (d1.frozen (p := ⟨bv, k, none⟩) a3).trans o5.out; go_wp2; go_roundw
      case rel => exact ⟨k + 1, by omega, by go_num, c6 _ d1, (Aa d1 HF.out).setCell (p := ⟨bv, k, none⟩) q6.1 _, (z1.trans (Aw d1 _)).trans (Ad W5 bv k _)⟩
      case measure => simp [intOf]; omega
     ·obtain rfl : k = m := by omega
      rw [Dp f2 v0.out] at hO; have HO := sK hO; have HF := sK hF; have z1 := sK hg; clear hO hF hg; go_wp2; go_roundw
      case rel => exact ⟨i + 1, by omega, by go_num, by rw [k2.out]; exact HO.out, HF.out, HG.trans z1.out⟩
      case measure => simp [intOf]; omega
  ·obtain rfl : i = n := by omega
   have y6 : ¬ (i : Int) < (i : Int) := by omega
   have q0 := sK (d4 i (qb _)); have f4 := sK (j2 i (qb _)); have a4 : Hid (Kp X w wo) := sK ((Kp.refl X w).grown HG (fun j hj => by injection hj with hj; exact .inl fun h => by have := HX _ h; omega)); generalize redX F B P v i = U at *; have g1 := sK (Qr wo (sQ bv) m cv U HO.rd)
   by_cases hk : fnz U < m
   ·have HE : Hid (st = (true, B ++ [Bb F.fld (F.inv (U.getD (fnz U) 0)) U], P ++ [fnz U])) := sK (by rw [j1.out, if_pos (by rw [q0.out]; exact hk)])
    have a1 : nzI U = (fnz U : Int) := by unfold nzI; rw [if_pos (by rw [q0.out]; exact hk)]
    have v4 := nR (l := U) (by rw [q0.out]; exact hk); have e8 : U.getD (fnz U) 0 < F.q := f4.at d0 _; have v1 := HO.cell hk; rw [a1] at g1; have n0 := fun k => Pc (wo.drewN k) bG F (a2 _ (Ae HF k)) _ e8 v4
    have f5 : F.inv (U.getD (fnz U) 0) < F.q := d0.pw_lt _ _; have m0 := fun (wx : WQ) (hx : From wo wx) => Iv wx bG F (a2 _ (Aa hx HF.out)) _ f5 (sQ bv) m cv U (HO.rd.below hx) f4 hm9
    unfold Bs iv at n0; unfold RetN iv at m0; have a5 : (Bb F.fld (F.inv (U.getD (fnz U) 0)) U).length = m := by simp [Bb, q0.out]
    have e4 := sK a5; have e7 : (fnz U : Int) < (m : Int) := by omega
    have r8 : ¬ (fnz U : Int) < 0 := by omega
    have j7 : 0 < m := by omega
    have f7 : fnz U < 1000000 := by omega
    clear a1 v4 f5 a5 j1; generalize Bb F.fld (F.inv (U.getD (fnz U) 0)) U = SR at *; generalize F.inv (U.getD (fnz U) 0) = z at *; generalize U.getD (fnz U) 0 = y at *; generalize fnz U = kz at *; have p5 := sK n0; have b6 := sK m0; clear n0 m0 hk e0; go_upto_region 15 with (go_at_call 271; refine g1.mono ?_; rintro e w' ⟨rfl, rfl⟩)
    go_quiet (first | (go_at_call 177; exact Fg (p5 _))); obtain ⟨W1, y2⟩ := xQ (wo.drewN nq); have m1 : From wo W1 := by rw [y2]; exact Ae (bR) _
    rw [<- y2]; have j5 := sK m1; have o0 := sK (Aa m1 HF.out); have q5 : Hid (Kp X w W1) := sK (a4.from m1); clear y2 m1 p0 p1 p2 v1; have z2 := t0 W1 o0.out; obtain ⟨p0, p1⟩ := z2.t2; have t6 := z2.free 1; obtain ⟨vs, q3, r3, c5⟩ := a6.own; have g4 : Hid (∀ wx, From w0 wx -> wx.ownsRow 0 22 1 (.slice A1 i c1) i vs) := sK fun wx hx => Ag q3 hx (qb _)
    have l2 := sK r3; have e6 := sK c5; have q1 : pb < W1.heap.size := by have := o0.size; omega
    have y3 : Hid (∀ b, BasX X pb A2 b -> b < w0.heap.size) := sK fun b hb => by
     rcases hb with h1 | h1 | h1
     ·exact HX b h1
     ·omega
     ·rcases HP.form with ⟨h2, _⟩ | ⟨g, h2, _, h3, _⟩
      ·rw [h2] at h1; cases h1
      ·rw [h2] at h1
       simp only [qc, qd, and_true] at h1; omega
    have g5 : Hid (∀ b, (Value.slice A1 i c1).ownBlock = some b -> b < w0.heap.size) := sK fun b e => (q3.lt b e).2
    have s5 : Hid ((Value.slice A1 i c1).ownBlock ≠ some pb) := sK fun e => r3 pb e (Or.inr (Or.inl rfl))
    have i2 : Hid (∀ b, (Value.slice A2 i c2).ownBlock = some b -> A2 = sQ b) := sK fun b e => by
     rcases HP.form with ⟨h2, _⟩ | ⟨g, h2, _⟩
     ·rw [h2] at e; simp [Value.ownBlock] at e
     ·rw [h2] at e ⊢
      have : g = b := by simpa [Value.ownBlock] using e
      rw [this]
    clear q3 r3 c5; go_upto_region 16 with fail
    go_region_law (first
      | (go_simp; go_at_call 59; refine (b6 _ j5.drew).mono ?_; rintro e w9 ⟨A9, c9, rfl, l3, j0⟩; have z0 : w9.cell? ⟨pb, 0, none⟩ = some (pQ bG) ∧ w9.cell? ⟨pb, 1, none⟩ = some (.slice A1 i c1) := ⟨(j0.cell (p := ⟨pb, 0, none⟩) q1).trans p0, (j0.cell (p := ⟨pb, 1, none⟩) q1).trans p1⟩; have c7 := z0.1; have d7 := z0.2; have z6 : ∀ o, (w9.alloc o).cell? ⟨pb, 0, none⟩ = some (pQ bG) ∧ (w9.alloc o).cell? ⟨pb, 1, none⟩ = some (.slice A1 i c1) := fun o => ⟨((Ac w9 o).cell (p := ⟨pb, 0, none⟩) (qk q1 j0.size)).trans z0.1, ((Ac w9 o).cell (p := ⟨pb, 1, none⟩) (qk q1 j0.size)).trans z0.2⟩)
      | (refine step_append_lies _ rfl (.tmp 83) (.tmp 91) 25 rfl 0 22 i1 (eQ) 1 24 Tryz.underlying25 hj a8 c8 d8 rfl (by omega) _ i vs rfl (g4 _ (Aa (Ac w9 _) (Aa j0 o0.drew))) _ 1 1 [.slice A9 m c9] rfl rfl (Dv w9 #[.slice A9 m c9] 22) (by simp [Value.oneCell']) (by omega) (by unfold maxLen; omega) (by omega) (qe _) _ rfl ?_; intro g2 g0 b0 x4 f3 w4 i7; have x0 := (t0 _ (Aa (Ac w9 _) (Aa j0 o0.drew))).kept f3 s5.out; have i3 : b0.cell? ⟨pb, 0, none⟩ = some (pQ bG) ∧ b0.cell? ⟨pb, 1, none⟩ = some (.slice A1 i c1) := ⟨x0.c0, x0.c1⟩; have a7 := i3.1; have b7 := i3.2; have v6 : b0.frozen? ⟨pb, 1, none⟩ = false := x0.free 1))
    all_goals
     have r0 : From w0 (w9.alloc (.cells #[.slice A9 m c9] 22)) := Aa (Ac w9 _) (Aa j0 o0.drew); have v2 : Kp X w (w9.alloc (.cells #[.slice A9 m c9] 22)) := q5.from (Aa (Ac w9 _) (Aa j0 ((bR).drew))); obtain ⟨wa, b1⟩ := xQ (w9.alloc (.cells #[.slice A9 m c9] 22)); obtain ⟨b9, i6, p6, _⟩ := l3.block j7; subst i6; have m8 : w0.heap.size <= b9 := by have := o0.size; simp at p6; omega
     have z4 : RdN wa (sQ b9) SR.length c9 SR := by rw [e4.out, b1]; exact l3.rd.alloc _
     rw [<- b1] at r0 v2; have o1 : wa.grownBy b0 (Value.slice A1 i c1).ownBlock := by rw [b1]; exact f3
     have x2 : Cc b0 (BasX X pb A2) (sQ g2) (i + 1) g0 (B ++ [SR]) := Cc.snoc (w := wa) (A := A1) (c := c1) (vs := vs) x3 (g4 _ r0) l2 (fun j hj => by
       obtain ⟨Aj, cj, e1, e2, e3⟩ := e6 j hj; exact ⟨Aj, cj, e1, e2.below r0, e3⟩) z4 (fun b a0 e _ => by
       simp only [qc, qd, and_true] at e; refine ⟨fun e2 => ?_, fun h2 => ?_⟩
       ·have := g5 b e2; omega
       ·have := y3 b h2; omega) (fun b hb => by have := y3 b hb; have := r0.size; omega) (by rw [e4.out]; exact x4) o1 (by rw [b1]; exact w4)
     have m4 : OwnN b0 0 A2 i c2 P := ((HP.below r0)).kept o1 (fun g hg e => l2 g e (Or.inr (Or.inr hg))); have l4 : Kp X w b0 := v2.grown o1 (fun j hj => .inl fun h => l2 j hj (Or.inl h)); have y5 := sK x2; have b4 : Hid (OwnN (b0.setCell ⟨pb, 1, none⟩ (.slice (sQ g2) (i + 1) g0)) 0 A2 i c2 P) := sK (m4.kept (Ad b0 pb 1 _) (fun g hg e => x1 (by rw [hg]; simp at e; rw [e]))); have d2 : Hid (Kp X w (b0.setCell ⟨pb, 1, none⟩ (.slice (sQ g2) (i + 1) g0))) := sK (l4.grown (Ad b0 pb 1 _) (fun j hj => by injection hj with hj; subst hj; exact .inl k3)); have c4 : Hid (Cc (b0.setCell ⟨pb, 1, none⟩ (.slice (sQ g2) (i + 1) g0)) (BasX X pb A2) (sQ g2) (i + 1) g0 (B ++ [SR])) := sK (x2.grown (Ad b0 pb 1 _) (fun b hb => by injection hb with hb; exact Or.inr (Or.inl hb.symm))); have y0 := x0.set 1 (.slice (sQ g2) (i + 1) g0); simp only [qj, qo, qp] at y0; obtain ⟨f1, d5⟩ := xQ (b0.setCell ⟨pb, 1, none⟩ (.slice (sQ g2) (i + 1) g0)); rw [<- d5] at y0 c4 d2 b4 ⊢; have w3 := sK y0; obtain ⟨-, -, q2⟩ := y0.t3; have l8 : 0 < i -> True := fun _ => trivial
     clear d5 y0 x2 m4 l4 y5 o1 b1 r0 v2 z4 x4 f3 w4 i7 x0 i3 a7 b7 v6 z0 c7 d7 z6 l3 j0 p0 p1 t6 z2; go_upto_region 18 with (at_builtin; refine Bl rfl (.tmp 99) (.tmp 101) 22 rfl i0 Tryz.underlying22 x6 f8 g8 i8 0 _ _ _ P rfl (b4.alloc _) _ 0 kz rfl (by go_simp) f7 (by omega) (qe _) ?_; intro g3 c3 w1 k7 p4 m3; have o2 := (w3.below (Ac f1 _)).kept p4 (fun e => x1 (i2 pb e)); have x8 := o2.c2; have k8 := o2.free 2)
     go_wp2; go_ret; have q4 : (f1.alloc (.cells #[nQ kz] 3)).grownBy w1 (Value.slice A2 i c2).ownBlock := p4; have w8 := (Ac f1 (.cells #[nQ kz] 3)).size; have hY : Cc (f1.alloc (.cells #[nQ kz] 3)) (fun b => BasX X pb A2 b ∨ BasX X pb (sQ g3) b) (sQ g2) (i + 1) g0 (B ++ [SR]) := (c4.below (Ac _ _)).less fun b hb => by
      rcases hb with hb | hb | hb | hb
      ·exact .inl hb
      ·exact .inl (Or.inl hb)
      ·exact .inl (Or.inr (Or.inl hb))
      ·simp only [qc, qd, and_true] at hb
       rcases m3 with h1 | h1
       ·exact .inl (Or.inr (Or.inr (by rw [h1, hb])))
       ·right; simp at h1 ⊢; omega
     have n6 := ((hY.grown q4 (fun b hb => Or.inl (Or.inr (Or.inr (i2 b hb))))).less (Y := BasX X pb (sQ g3)) (fun b hb => .inl (Or.inr hb))).grown (Ad w1 pb 2 (.slice (sQ g3) (i + 1) c3)) (fun b hb => by injection hb with hb; exact Or.inr (Or.inl hb.symm)); have w6 : g3 ≠ pb := fun e => by
      rcases m3 with h1 | h1
      ·exact x1 (by rw [h1, e])
      ·have := w3.lt; simp at h1; omega
     have m6 := k7.kept (Ad w1 pb 2 (.slice (sQ g3) (i + 1) c3)) (fun g hg e => by simp only [qc, qd, and_true] at hg e; omega); have l6 := ((d2.from (Ac f1 (.cells #[nQ kz] 3))).grown q4 (fun j hj => .inl (fun h => v3 j (i2 j hj) h))).grown (Ad w1 pb 2 (.slice (sQ g3) (i + 1) c3)) (fun j hj => by injection hj with hj; subst hj; exact .inl k3); have k4 := o2.set 2 (.slice (sQ g3) (i + 1) c3); simp only [qj, qo, qp] at k4; have s4 : (B ++ [SR]).length = i + 1 := by rw [Hq, x3.out]; rfl
     have t4 : (P ++ [kz]).length = i + 1 := by rw [Hq, w5.out]; rfl
     rw [HE.out]; refine ⟨rfl, ⟨⟨sQ g2, g0, sQ g3, c3, ?_, ?_, ?_, ?_, ?_⟩, k3⟩, l6⟩
     ·simp only [s4, t4]; exact k4
     ·simp only [s4]; exact n6
     ·simp only [t4]; exact m6
     ·simp only [ne_eq, qc, qd, and_true]; exact w6
     ·intro b hb h
      simp only [qc, qd, and_true] at hb; subst hb
      rcases m3 with h1 | h1
      ·exact v3 _ h1 h
      ·have h2 := HX _ h
       have h3 := d2.out.2.2.2.1; have h4 := H0.size; simp at h1; omega
   ·have HE : Hid (st = (false, B, P)) := sK (by rw [j1.out, if_neg (by rw [q0.out]; exact hk)])
    have a1 : nzI U = -1 := by unfold nzI; rw [if_neg (by rw [q0.out]; exact hk)]
    rw [a1] at g1; clear a1 hk e0 j1; go_wp2_with (go_at_call 271; refine g1.mono ?_; rintro e w' ⟨rfl, rfl⟩); go_ret; rw [HE.out]; exact ⟨rfl, k5.below HF.out, a4.out⟩
theorem Bas.less {w : WQ} {X Y : Nat -> Prop} {pb bG : Nat} {B : LQ} {P : NQ} (h : Bas w X pb bG B P) (hY : ∀ b, Y b -> X b ∨ w.heap.size <= b) : Bas w Y pb bG B P := by
 obtain ⟨A1, c1, A2, c2, h1, h2, h3, h4, h5⟩ := h.ex
 have hl := h1.lt
 have j2 : ∀ b, A2 = sQ b -> b < w.heap.size := fun b e => by
  rcases h3.form with ⟨h6, _⟩ | ⟨g, h6, _, h7, _⟩
  ·rw [h6] at e; cases e
  ·rw [h6] at e
   simp only [qc, qd, and_true] at e; omega
 refine ⟨⟨A1, c1, A2, c2, h1, h2.less (fun b hb => ?_), h3, h4, fun b e hb => ?_⟩, fun hb => ?_⟩
 ·rcases hb with hb | hb | hb
  ·rcases hY b hb with h6 | h6
   ·exact .inl (.inl h6)
   ·exact .inr h6
  ·exact .inl (.inr (.inl hb))
  ·exact .inl (.inr (.inr hb))
 ·rcases hY b hb with h6 | h6
  ·exact h5 b e h6
  ·have := j2 b e; omega
 ·rcases hY _ hb with h6 | h6
  ·exact h.np h6
  ·omega
theorem Bas.grown {w w' : WQ} {X : Nat -> Prop} {pb bG : Nat} {B : LQ} {P : NQ} (h : Bas w X pb bG B P) {r : Option Nat} (hg : w.grownBy w' r) (hr : ∀ b, r = some b -> X b) : Bas w' X pb bG B P := by
 obtain ⟨A1, c1, A2, c2, h1, h2, h3, h4, h5⟩ := h.ex
 refine ⟨⟨A1, c1, A2, c2, h1.kept hg (fun e => h.np (hr _ e)), h2.grown hg (fun b e => .inl (hr b e)), ?_, h4, h5⟩, h.np⟩
 refine ⟨h3.row.kept hg ?_, h3.sm⟩
 rcases h3.form with ⟨h6, h7, h8⟩ | ⟨g, h6, _⟩
 ·subst h6; exact .inl (by simp [Value.ownBlock])
 ·subst h6; exact .inr fun e => h5 g rfl (hr g e.symm)
theorem Kp.own {X : Nat -> Prop} {w w' : WQ} (h : Kp X w w') {base n c : Nat} {A : OQ} {l : NQ} (ho : OwnN w base A n c l) (hx : ∀ b, (Value.slice A n c).ownBlock = some b -> X b) : OwnN w' base A n c l := by
 refine ⟨⟨ho.row.1, ?_⟩, ho.sm⟩
 rcases ho.row.2 with h1 | ⟨g, cap, cur, h1, hb, hg, hr⟩
 ·exact .inl h1
 ·refine .inr ⟨g, cap, cur, h1, hb, ?_, hr⟩
  rw [h.2.2.2.2 g (qg.1 hg).1 (hx g (by rw [h1]; rfl))]; exact hg
def BOk (F : FD) (m : Nat) (s : LQ × NQ) : Prop := Mat F.fld m s.1 ∧ s.2.length = s.1.length ∧ ∀ i, i < s.2.length -> s.2.getD i 0 < m
theorem iX {F : FD} (hF : F.Ok) {m : Nat} {s : LQ × NQ} (h : BOk F m s) {v : NQ} (hv : v.length = m) (hve : Els F v) : BOk F m (addB F s.1 s.2 v).2 := by
 obtain ⟨h1, h2, h3⟩ := h
 have hl := Ky h1 (P := s.2) hv s.1.length (qb _)
 have he := Pk hF h1 (P := s.2) hv hve s.1.length (qb _)
 unfold addB
 split
 ·rename_i hf
  refine ⟨fun r hr => ?_, by simp [h2], fun i hi => ?_⟩
  ·rcases qar.1 hr with h4 | h4
   ·exact h1 r h4
   ·rw [qbm.1 h4]
    refine ⟨by rw [Gc]; exact hl, fun x hx => ?_⟩; unfold Bb at hx; obtain ⟨y, _, rfl⟩ := qz.1 hx; exact hF.mul_lt _ _
  ·rw [Hq, List.length_singleton] at hi
   by_cases h4 : i < s.2.length
   ·rw [qa, Pq h4, <- qa]; exact h3 i h4
   ·obtain rfl : i = s.2.length := by omega
    rw [qa, Gq (qb _), qaa]; show fnz _ < m; rw [<- hl]; exact hf
 ·exact ⟨h1, h2, h3⟩
def grd (F : FD) (R : LQ) (O : NQ) : Nat -> (LQ × NQ) × NQ
 | 0 => (([], []), [])
 | i + 1 => ((addB F (grd F R O i).1.1 (grd F R O i).1.2 (colM R (O.getD i 0))).2, if (addB F (grd F R O i).1.1 (grd F R O i).1.2 (colM R (O.getD i 0))).1 then (grd F R O i).2 ++ [O.getD i 0] else (grd F R O i).2)
theorem iN {F : FD} (hF : F.Ok) {R : LQ} {k N : Nat} (hR : R.length = k) (hM : Mat F.fld N R) (O : NQ) : ∀ i, BOk F k (grd F R O i).1
 | 0 => ⟨fun r hr => (by cases hr), rfl, fun i hi => absurd hi (by simp [grd])⟩
 | i + 1 => iX hF (iN hF hR hM O i) (by simp [colM, hR]) (fun y hy => by
   simp only [colM, qz] at hy; obtain ⟨r, hr, rfl⟩ := hy; exact (show Els F r from (hM r hr).2).at hF _)
theorem bH {F : FD} {R : LQ} (O : NQ) : ∀ i, (grd F R O i).1.1.length <= i ∧ (grd F R O i).2.length <= i
 | 0 => ⟨qb _, qb _⟩
 | i + 1 => by
  obtain ⟨h1, h2⟩ := bH (F := F) (R := R) O i; unfold grd
  constructor
  ·unfold addB
   split
   ·simp; omega
   ·simp; omega
  ·simp only
   split
   ·simp; omega
   ·omega
theorem Oz (w : WQ) (bG : Nat) (F : FD) (hG : GFat w bG F) (P M : Int) (A0 : OQ) (n0 c0 N : Nat) (B : OQ) (k cg : Nat) (R : LQ) (hR : RdM w B k cg R) (hM : Mat F.fld N R) (hk0 : 0 < k) (hk9 : k <= 256)
  (Ao : OQ) (n co : Nat) (O : NQ) (hO : RdN w Ao n co O) (hON : ∀ x ∈ O, x < N) (hn9 : n <= 256) (hN9 : N <= 1000) :
  cQ 143 #[pQ bG, .agg #[.int .i64 P, .int .i64 M, .slice A0 n0 c0, nQ N, .slice B k cg], .slice Ao n co] w (RetN (grd F R O n).2.length (grd F R O n).2 w) := by
 obtain ⟨i0, o2, s2, t2, u2⟩ := info_parts Bj
 have u1 := hG.ok
 have g2 := sK hO.len
 have i2 := sK hR.len
 have HO := sK hO
 have HR := sK hR
 have HG := sK hG
 have z2 := hO.cap
 have m2 := hO.max
 unfold maxLen at m2
 have z1 : Hid (∀ i, BOk F k (grd F R O i).1) := sK (iN u1 hR.len hM O)
 have d2 : Hid (∀ i, (grd F R O i).1.1.length <= i ∧ (grd F R O i).2.length <= i) := sK (bH O)
 have i1 : Hid (∀ wx, From w wx -> ∀ x, x < N -> cQ 261 #[.agg #[.int .i64 P, .int .i64 M, .slice A0 n0 c0, nQ N, .slice B k cg], nQ x] wx (RetN k (colM R x) wx)) := sK fun wx hx x e1 => Xm wx P M A0 n0 c0 (N : Int) B k cg R (hR.below hx) (by omega) x (fun j hj => by
  have : (R.getD j []).length = N := hM.len (by rw [i2.out]; exact hj); omega)
 have a2 : Hid (∀ x, Els F (colM R x)) := sK fun x y hy => by
  simp only [colM, qz] at hy; obtain ⟨r, hr, rfl⟩ := hy; exact (show Els F r from (hM r hr).2).at u1 x
 unfold RetN at i1
 unfold RetN
 clear hG hO hR
 go_enter Tryz.func143, Tryz.ntmps143
 go_upto_region 4 with fail
 obtain ⟨W, hW, k2, n1, b0, b1⟩ := mk2 w #[.int .i64 P, .int .i64 M, .slice A0 n0 c0, nQ N, .slice B k cg] 27 #[pQ bG, eQ, eQ] 263
 rw [hW]
 clear hW
 have HC := sK b0
 have k1 := sK b1
 have HF := sK n1
 obtain ⟨pb, w1⟩ := xQ (w.heap.size + 1)
 rw [<- w1] at k1 ⊢
 have d3 : pb < W.heap.size := by omega
 have e3 : w.heap.size < pb := by omega
 clear b0 b1 n1 k2 w1
 go_loopw [8, 16] (fun v2 f1 wr => ∃ (i : Nat) (A : OQ) (c : Nat), i <= n ∧ f1 = nQ i ∧ v2 = .slice A (grd F R O i).2.length c ∧ OwnN wr W.heap.size A (grd F R O i).2.length c (grd F R O i).2 ∧ Bas wr (fun b => b <= w.heap.size ∨ (Value.slice A (grd F R O i).2.length c).ownBlock = some b) pb bG (grd F R O i).1.1 (grd F R O i).1.2 ∧ Below (w.heap.size + 1) W wr) (fun _ f1 _ => n - (intOf f1).toNat)
 case atStart => exact ⟨0, none, 0, qe _, rfl, rfl, OwnN.nil _ _, Bas.empty k1 (fun h => by rcases h with h | h; omega; simp [Value.ownBlock] at h), bR⟩
 case round =>
  obtain ⟨i, A, c, c3, rfl, rfl, t0, a1, o0⟩ := hrel; obtain ⟨wo, rfl⟩ := xQ wr; have g0 : From w wo := HF.trans (qf o0 (by omega))
  by_cases hi9 : i < n
  ·have a3 : (i : Int) < (n : Int) := by omega
   obtain ⟨bo, oo, rfl, _, n2⟩ := (HO.below g0).at hi9; have e1 : O.getD i 0 < N := hON _ (Ap (by rw [g2.out]; exact hi9) _); have t1 : grd F R O (i + 1) = ((addB F (grd F R O i).1.1 (grd F R O i).1.2 (colM R (O.getD i 0))).2, if (addB F (grd F R O i).1.1 (grd F R O i).1.2 (colM R (O.getD i 0))).1 then (grd F R O i).2 ++ [O.getD i 0] else (grd F R O i).2) := rfl; have j0 := sK t1; have r0 := z1 i; have s1 := d2 i; have y2 := o0.size; obtain ⟨x, hx⟩ := xQ (O.getD i 0); rw [<- hx] at n2 e1 j0; obtain ⟨s, hs⟩ := xQ (grd F R O i); rw [<- hs] at t0 a1 j0 r0 s1; have HS := sK hs; obtain ⟨a, ha⟩ := xQ (addB F s.1.1 s.1.2 (colM R x)); have HA := sK ha; rw [<- ha] at j0; have z0 : ∀ b, (b <= w.heap.size ∨ (Value.slice A s.2.length c).ownBlock = some b) -> b < wo.heap.size := fun b hb => by
    rcases hb with hb | hb
    ·omega
    ·exact (t0.row.lt b hb).2
   have h0 : Hid (∀ w5 bv cv, From wo w5 -> OwnN w5 wo.heap.size (sQ bv) k cv (colM R x) -> cQ 260 #[pQ pb, .slice (sQ bv) k cv] w5 (bM (fun b => b <= w.heap.size ∨ (Value.slice A s.2.length c).ownBlock = some b) pb bG a w5)) := sK fun w5 bv cv h5 hv => by
    rw [ha]; exact kH wo w5 _ pb bG F (HG.below g0) s.1.1 s.1.2 a1 z0 k r0.1 r0.2.1 r0.2.2 h5 bv cv _ hv (a2 x) (by omega) (by omega)
   have j1 := sK (i1 wo g0 x e1); have g1 := sK o0; have y0 := sK t0; have x2 := sK z0; have w2 := sK g0; unfold bM at h0; have l1 := HC.keep o0 (by omega); obtain ⟨q0, q1, q2, q3, q4⟩ := l1.t5; have g3 : s.2.length <= 256 := by omega
   rw [<- hs]; clear hs ha hx t1 t0 a1 o0 z0 g0 r0 s1 l1
   by_cases ht : a.1 = true
   ·have e0 : Hid (grd F R O (i + 1) = (a.2, s.2 ++ [x])) := sK (by rw [j0.out, if_pos ht])
    rw [ht] at h0; go_upto_region 7 with (first | (go_at_call 261; refine j1.mono ?_; rintro e w5 ⟨Av, cv, rfl, f0, a0⟩) | (obtain ⟨bv, rfl, _⟩ := f0.block hk0; go_at_call 260; refine (h0 w5 bv cv a0 f0).mono ?_; rintro e w6 ⟨rfl, l0, d0⟩))
    have l2 := a0.size; have m0 : Below (w.heap.size + 1) w5 w6 := d0.below (by omega) (fun b hb => .inl (by omega)); have v0 := sK l0; have w0 := sK ((g1.trans (qf a0 (by omega))).trans m0); have x0 := sK (d0.own (y0.below a0) (fun b hb => .inr hb)); have f3 := d0.2.2.2.1; have r2 : x < 1000000 := by omega
    clear f0 a0 l0 d0 m0; have e2 := sK (x0.alloc (.cells #[nQ x] 3)); go_upto_region 8 with (at_builtin; refine Bl rfl (.tmp 25) (.tmp 27) 22 rfl i0 Tryz.underlying22 o2 s2 t2 u2 W.heap.size A s.2.length c s.2 rfl e2 w6.heap.size 0 x rfl (by go_simp) r2 (by omega) (by simp; omega) ?_; intro g' c' w8 m1 d1 v1)
    have o1 : Bas w8 (fun b => b <= w.heap.size ∨ (Value.slice (sQ g') (s.2.length + 1) c').ownBlock = some b) pb bG a.2.1 a.2.2 := by
     have h1 : Bas (w6.alloc (.cells #[nQ x] 3)) (fun b => (b <= w.heap.size ∨ (Value.slice A s.2.length c).ownBlock = some b) ∨ b = g') pb bG a.2.1 a.2.2 := (v0.below (Ac _ _)).less (fun b hb => by
      rcases hb with hb | hb
      ·exact .inl hb
      ·rcases v1 with h2 | h2
       ·exact .inl (.inr (by rw [h2, hb]; rfl))
       ·exact .inr (by rw [hb, h2]; exact qb _))
     have h2 := h1.grown d1 (fun b hb => .inl (.inr hb)); exact h2.less (fun b hb => by
      rcases hb with hb | hb
      ·exact .inl (.inl (.inl hb))
      ·exact .inl (.inr (by injection hb with hb; exact hb.symm)))
    have r1 : Below (w.heap.size + 1) W w8 := (w0.alloc (by omega) (.cells #[nQ x] 3)).grown d1 (by simp; omega) (fun b hb => by have := (y0.row.lt b hb).1; omega); have x1 := sK o1; have y1 := sK r1; have f2 := sK m1; clear o1 r1 m1 d1 v1; go_wp2; go_roundw
    case rel =>
     refine ⟨i + 1, sQ g', c', by omega, by go_num, ?_, ?_, ?_, y1.out⟩
     ·rw [e0.out, Hq]; rfl
     ·rw [e0.out, Hq]; exact f2.out
     ·rw [e0.out, Hq]; exact x1.out
    case measure => simp [intOf]; omega
   ·have e0 : Hid (grd F R O (i + 1) = (a.2, s.2)) := sK (by rw [j0.out, if_neg ht])
    have p2 : a.1 = false := by simpa using ht
    rw [p2] at h0; go_upto_region 8 with (first | (go_at_call 261; refine j1.mono ?_; rintro e w5 ⟨Av, cv, rfl, f0, a0⟩) | (obtain ⟨bv, rfl, _⟩ := f0.block hk0; go_at_call 260; refine (h0 w5 bv cv a0 f0).mono ?_; rintro e w6 ⟨rfl, l0, d0⟩))
    have l2 := a0.size; have m0 : Below (w.heap.size + 1) w5 w6 := d0.below (by omega) (fun b hb => .inl (by omega)); have v0 := sK l0; have w0 := sK ((g1.trans (qf a0 (by omega))).trans m0); have x0 := sK (d0.own (y0.below a0) (fun b hb => .inr hb)); clear f0 a0 l0 d0 m0; go_wp2; go_roundw
    case rel =>
     refine ⟨i + 1, A, c, by omega, by go_num, ?_, ?_, ?_, w0.out⟩
     ·rw [e0.out]
     ·rw [e0.out]; exact x0.out
     ·rw [e0.out]; exact v0.out
    case measure => simp [intOf]; omega
  ·obtain rfl : i = n := by omega
   go_wp2; go_ret; exact ⟨A, c, rfl, t0.mono (by have := HF.size; omega), g0⟩
end Go.Proofs.YtoalkldfhkabnaaGreatDoor
