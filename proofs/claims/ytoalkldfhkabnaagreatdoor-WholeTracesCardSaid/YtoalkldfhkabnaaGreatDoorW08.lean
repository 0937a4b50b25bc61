/- Part of WholeTraces. -/
import Derived.Deep.Cut
import Derived.Deep.CutRange
import Derived.Test.YtoalkldfhkabnaaGreatDoorW00
import Derived.Test.YtoalkldfhkabnaaGreatDoorW07
set_option linter.all false
set_option maxRecDepth 10000
set_option maxHeartbeats 16000000
namespace Go.Proofs.YtoalkldfhkabnaaGreatDoor
open Go.RowKit Fq
def Bxs (w : WQ) (B : List (Nat × Value)) : Prop := ∀ p ∈ B, w.cell? ⟨p.1, 0, none⟩ = some p.2 ∧ w.frozen? ⟨p.1, 0, none⟩ = false ∧ p.1 < w.heap.size
section
variable {w w' : WQ} {B : List (Nat × Value)}
theorem Bxs.kept (h : Bxs w B) {r : Option Nat} (hg : w.grownBy w' r) (l1 : ∀ p ∈ B, r ≠ some p.1) : Bxs w' B := fun p hp => by
 obtain ⟨h1, h2, h3⟩ := h p hp
 have hb := hg.block p.1 h3 (fun e => l1 p hp e.symm)
 exact ⟨hg.cell h1 (fun e => l1 p hp e.symm), by rw [<- h2]; simp [World.frozen?, hb], qk h3 hg.size⟩
theorem Bxs.below (h : Bxs w B) (hb : Below w.heap.size w w') : Bxs w' B := fun p hp => by
 obtain ⟨h1, h2, h3⟩ := h p hp
 exact ⟨(hb.cell (p := ⟨p.1, 0, none⟩) h3).trans h1, (hb.frozen (p := ⟨p.1, 0, none⟩) h3).trans h2, qk h3 hb.size⟩
theorem Bxs.cons {x : Nat} {v : Value} (h : Bxs w B) (h1 : w.cell? ⟨x, 0, none⟩ = some v) (h2 : w.frozen? ⟨x, 0, none⟩ = false) (h3 : x < w.heap.size) : Bxs w ((x, v) :: B) := fun p hp => by
 rcases qx.1 hp with rfl | hp
 ·exact ⟨h1, h2, h3⟩
 ·exact h p hp
theorem Bxs.nil : Bxs w [] := fun p hp => by cases hp
theorem Bxs.set {x : Nat} {u v : Value} (h : Bxs w ((x, u) :: B)) (l1 : ∀ p ∈ B, p.1 ≠ x) : Bxs (w.setCell ⟨x, 0, none⟩ v) ((x, v) :: B) := by
 obtain ⟨h1, h2, h3⟩ := h _ (.head _)
 have hb : Bxs w B := fun p hp => h p (.tail _ hp)
 refine (hb.kept (Ad w x 0 v) fun p hp e => l1 p hp (Aq e).symm).cons (qaw _ _ _ h1) ?_ (by simpa [World.setCell] using h3)
 rw [<- h2]
 have := (Ad w x 0 v)
 simp only [World.frozen?, World.setCell, Array.getElem?_modify, if_pos]
 cases w.heap[x]? with
 | none => rfl
 | some o => cases o <;> (simp only [Option.map_some]; try rfl)
theorem Bxs.sub {C : List (Nat × Value)} (h : Bxs w B) (hs : ∀ p ∈ C, p ∈ B) : Bxs w C := fun p hp => h p (hs p hp)
theorem Bxs.swap {p q : Nat × Value} (h : Bxs w (p :: q :: B)) : Bxs w (q :: p :: B) := h.sub fun r hr => by
 simp only [qx] at hr ⊢; rcases hr with h | h | h <;> simp [h]
end
theorem Az.kept {w w' : WQ} {base g n c : Nat} {vs : VQ} {R : LQ} {r : Option Nat} (h : Az w base g n c vs R) (hg : w.grownBy w' r) (h1 : r ≠ some g) (h2 : ∀ j b, j < n -> (vs.getD j undef).ownBlock = some b -> r ≠ some b) : Az w' base g n c vs R := by
 refine ⟨⟨h.grid.outer.kept hg (.inr fun e => h1 e.symm), h.grid.lenR, fun j hj => ?_, h.grid.apart⟩, h.sm⟩
 obtain ⟨m, hm⟩ := h.grid.inner j hj
 refine ⟨m, hm.kept hg ?_⟩
 cases hv : (vs.getD j undef).ownBlock with
 | none => exact .inl rfl
 | some b => exact .inr fun e => h2 j b hj hv e.symm
theorem Qy (F : Fld) (c : Nat) (st : LQ × NQ) (h : st.1.length <= st.2.length) : Bg F c st = st := by
 unfold Bg
 have h1 := (Jl st.1 c (st.1.length - st.2.length) st.2.length).1
 simp only
 rw [if_neg (by omega)]
theorem Mm (F : Fld) (R : LQ) (c : Nat) (h : (elim F R c).1.length <= (elim F R c).2.length) : ∀ k, elim F R (c + k) = elim F R c
 | 0 => rfl
 | k + 1 => by
  show Bg F (c + k) (elim F R (c + k)) = _; rw [Mm F R c h k, Qy _ _ _ h]
theorem Bxs.new (w : WQ) (u : Value) (t : TypeId) : Bxs (w.alloc (.cells #[u] t)) [(w.heap.size, u)] := by
 refine Bxs.nil.cons ?_ ?_ ?_ <;> first | (simp; done) | go_simp
theorem Ie {F : Fld} (h : F.Ok) {u : NQ} (hu : ∀ x ∈ u, x < F.q) : Bb F 1 u = u := by
 unfold Bb
 conv => rhs; rw [<- List.map_id u]
 exact qbh fun x hx => h.omul (hu x hx)
theorem Dx {α : Type} (l : List α) (i : Nat) (d : α) : l.set i (l.getD i d) = l := by
 apply Tq (by simp)
 intro j h1 h2
 by_cases hij : i = j
 ·subst hij; simp [qa, h2]
 ·simp [List.getElem_set_ne hij]
theorem Lg {F : Fld} (h : F.Ok) {n : Nat} {R : LQ} (hR : Mat F n R) {a c : Nat} (ha : a < R.length) (i : Nat) (hi : i <= R.length) : Mat F n (clr F R a c i) := by
 intro u hu
 obtain ⟨l, hl, rfl⟩ := Iq.1 hu
 have e : (clr F R a c i)[l] = (clr F R a c i).getD l [] := by simp [qa, hl]
 rw [e, Fo _ hi]
 rw [Ea] at hl
 split
 ·exact ⟨Bv (hR.len hl) (hR.len ha), Gf h (h.negL _ (hR.lt h l c)) (hR.rowLt hl) (hR.rowLt ha)⟩
 ·exact hR _ (Ap hl _)
theorem Hf {F : Fld} (h : F.Ok) {u v : NQ} {n : Nat} (h1 : v.length = n) (h2 : u.length = n) (hv : ∀ x ∈ v, x < F.q) (hu : ∀ x ∈ u, x < F.q) : addRow F v (F.neg 0) u = v := by
 refine Ns (Bv h1 h2) h1 fun j hj => ?_
 have a1 : v.getD j 0 < F.q := hv _ (Ap (by omega) _)
 have a2 : u.getD j 0 < F.q := hu _ (Ap (by omega) _)
 rw [Co h1 h2 hj, h.neg0, h.zmul a2, h.add0 _ a1]
def Oh (B : Nat) (u v : Value) (w : WQ) : Prop := ∃ x, v = pQ x ∧ B <= x ∧ Bxs w [(x, u)]
theorem Oh.lasting {B : Nat} {u : Value} : ∀ v w w', Below w.heap.size w w' -> Oh B u v w -> Oh B u v w' := fun _ _ _ hb ⟨x, h1, h2, h3⟩ => ⟨x, h1, h2, h3.below hb⟩
theorem Ye (R : LQ) (i : Nat) (hi : i < R.length) : Cf R i i = R := by
 unfold Cf
 have e : R.set i (R.getD i []) = R := by
  apply Tq (by simp); intro j h1 h2
  by_cases hij : i = j
  ·subst hij; simp [qa, hi]
  ·simp [List.getElem_set_ne hij]
 rw [e, e]
theorem Jj {R : LQ} {c L n k : Nat} (hn : R.length = n) (hL : L <= k) (hk : k <= n) (hz : ∀ i, L <= i -> i < k -> ent R i c = 0) (hk2 : k < n -> ent R k c ≠ 0) : fpiv R c (R.length - L) L = k := by
 obtain ⟨h1, h2, h3, h4⟩ := Jl R c (R.length - L) L
 rcases Nat.lt_trichotomy (fpiv R c (R.length - L) L) k with h | h | h
 ·exact absurd (hz _ h1 h) (h4 (by omega))
 ·exact h
 ·exact absurd (h3 k hL h) (hk2 (by omega))
theorem mQ (w : WQ) (g n c br ba c0 c1 : Nat) (T : Ending -> WQ -> Prop) (h1 : w.cell? ⟨br, 0, none⟩ = some (.slice (sQ g) n c))
  (hc : cQ 176 #[.slice (sQ g) n c, pQ c0, pQ c1] w T) (h2 : ∀ e w', T e w' -> (∃ v, e = .returned v) ∧ w'.cell? ⟨ba, 0, none⟩ = some (eQ)) :
  cQ 175 #[.func (Fn.func 176) #[] #[pQ c0, pQ c1], pQ br, pQ ba] w (fun e w' => (∃ v, e = .returned v) ∧ ∃ e0, T e0 w') := by
 have HC := sK hc
 have H2 := sK h2
 clear hc h2
 go_enter Tryz.func175, Tryz.ntmps175
 go_wp2_with (go_at_call 176; refine HC.mono ?_; intro e w' hT; obtain ⟨⟨v, rfl⟩, hb⟩ := H2 _ _ hT)
 go_end0
 exact ⟨⟨_, rfl⟩, _, hT⟩
theorem iW (w : WQ) (g n c br ba c0 c1 c2 : Nat) (T : Ending -> WQ -> Prop) (h1 : w.cell? ⟨br, 0, none⟩ = some (.slice (sQ g) n c))
  (hc : cQ 178 #[.slice (sQ g) n c, pQ c0, pQ c1, pQ c2] w T) (h2 : ∀ e w', T e w' -> (∃ v, e = .returned v) ∧ w'.cell? ⟨ba, 0, none⟩ = some (eQ)) :
  cQ 175 #[.func (Fn.func 178) #[] #[pQ c0, pQ c1, pQ c2], pQ br, pQ ba] w (fun e w' => (∃ v, e = .returned v) ∧ ∃ e0, T e0 w') := by
 have HC := sK hc
 have H2 := sK h2
 clear hc h2
 go_enter Tryz.func175, Tryz.ntmps175
 go_wp2_with (go_at_call 178; refine HC.mono ?_; intro e w' hT; obtain ⟨⟨v, rfl⟩, hb⟩ := H2 _ _ hT)
 go_end0
 exact ⟨⟨_, rfl⟩, _, hT⟩
theorem mV (w : WQ) (g n c br ba c0 c1 c2 c3 : Nat) (T : Ending -> WQ -> Prop) (h1 : w.cell? ⟨br, 0, none⟩ = some (.slice (sQ g) n c))
  (hc : cQ 179 #[.slice (sQ g) n c, pQ c0, pQ c1, pQ c2, pQ c3] w T) (h2 : ∀ e w', T e w' -> (∃ v, e = .returned v) ∧ w'.cell? ⟨ba, 0, none⟩ = some (eQ)) :
  cQ 175 #[.func (Fn.func 179) #[] #[pQ c0, pQ c1, pQ c2, pQ c3], pQ br, pQ ba] w (fun e w' => (∃ v, e = .returned v) ∧ ∃ e0, T e0 w') := by
 have HC := sK hc
 have H2 := sK h2
 clear hc h2
 go_enter Tryz.func175, Tryz.ntmps175
 go_wp2_with (go_at_call 179; refine HC.mono ?_; intro e w' hT; obtain ⟨⟨v, rfl⟩, hb⟩ := H2 _ _ hT)
 go_end0
 exact ⟨⟨_, rfl⟩, _, hT⟩
def Sj (base g n : Nat) (st : LQ × NQ) (w : WQ) (e : Ending) (w' : WQ) : Prop :=
 ∃ A pc d vs, e = .returned (.tuple #[.slice A st.2.length pc, .int .i64 d]) ∧ OwnN w' w.heap.size A st.2.length pc st.2 ∧ Az w' base g n n vs st.1 ∧ Below base w w'
theorem lQ (w0 w : WQ) (b : Nat) (F : FD) (hGF : GFat w0 b F) (h0 : Below w0.heap.size w0 w) (base g n : Nat) (hb0 : w0.heap.size <= base) (vs : VQ) (R0 : LQ) (hG : Az w base g n n vs R0) (m cols : Nat) (hM : Mat F.fld m R0) (hm0 : 0 < m) (f3 : m <= 1000) (hcm : cols <= m) (hn9 : n <= 1000) :
  cQ 123 #[pQ b, .slice (sQ g) n n, .int .i64 (cols : Int), eQ] w (Sj base g n (elim F.fld R0 cols) w) := by
 obtain ⟨i0, aA, gE, hA, hC⟩ := info_parts Bj
 have o0 := hGF.ok.fldOk
 have i3 := hGF.ok
 have hq := i3.q256
 have x7 : Hid (∀ c, c <= m -> EInv F.fld m R0 c (elim F.fld R0 c).1 (elim F.fld R0 c).2) := sK fun c hc => Fs o0 hM c hc
 have s6 := hG.head
 have d5 := sK hGF
 have H0 := sK h0
 have l9 : base <= w.heap.size := by omega
 have l8 : R0.length = n := hG.len
 have s3 : Hid (∀ wx, Below base w wx -> GFat wx b F) := sK fun wx hx => hGF.keep (h0.trans (qf hx hb0)) (qb _)
 go_enter Tryz.func123, Tryz.ntmps123
 go_wp2
 obtain ⟨W, hW⟩ := xQ (((w.alloc (.cells #[pQ b] 56)).alloc (.cells #[.slice (sQ g) n n] 25)).alloc (.cells #[eQ] 25))
 have hN : W.heap.size = w.heap.size + 3 := by rw [hW]; simp
 have j4 : Below w.heap.size w W := by rw [hW]; exact (((bR).alloc (qb _) _).alloc (by simp) _).alloc (by simp; omega) _
 have m5 : Bxs W [(w.heap.size, pQ b), (w.heap.size + 1, .slice (sQ g) n n), (w.heap.size + 1 + 1, eQ)] := by
  rw [hW]; refine ((Bxs.nil.cons ?_ ?_ ?_).cons ?_ ?_ ?_).cons ?_ ?_ ?_ <;> first | (simp; omega) | go_simp
 rw [<- hW]
 clear hW
 have u7 := sK (And.intro s6.1 s6.2.1)
 have v5 : Off vs n [w.heap.size, w.heap.size + 1, w.heap.size + 1 + 1] := fun j b9 hj w1 f3 => by
  have := (hG.blkLt hj w1).2; simp at f3; omega
 go_loopw [10, 12, 13] (fun dv pv cv wr => ∃ (c : Nat) (A : OQ) (pc d : Nat) (vs : VQ), c <= cols ∧ cv = .int .i64 (c : Int) ∧ pv = .slice A (elim F.fld R0 c).2.length pc ∧ dv = .int .i64 (d : Int) ∧ d < F.q ∧
   OwnN wr W.heap.size A (elim F.fld R0 c).2.length pc (elim F.fld R0 c).2 ∧ Az wr base g n n vs (elim F.fld R0 c).1 ∧ Off vs n [w.heap.size, w.heap.size + 1, w.heap.size + 1 + 1] ∧ (∀ x, A = sQ x -> Off vs n [x]) ∧
   Bxs wr [(w.heap.size, pQ b), (w.heap.size + 1, .slice (sQ g) n n), (w.heap.size + 1 + 1, eQ)] ∧ Below base w wr ∧ W.heap.size <= wr.heap.size) (fun _ _ cv _ => cols - (intOf cv).toNat)
 case atStart =>
  exact ⟨0, none, 0, 1, vs, qe _, rfl, rfl, rfl, by have := i3.q2; omega, OwnN.nil _ _, hG.below (j4.mono (by omega) |> fun h => h) , v5, fun x h => (by cases h), m5, j4.mono l9, qb _⟩
 case round =>
  clear m5 v5 hG vs; obtain ⟨c, A, pc, d, vs, hc, rfl, rfl, rfl, hd, hP, hG, u5, x5, q1, hB, cD⟩ := hrel; have hI := x7 c (by omega); have b7 := hI.ple; have s4 := hI.len; have c7 := hP.le; unfold maxLen at c7; have e6 := q1 _ (.head _); have f6 := q1 _ (.tail _ (.head _)); have g6 := q1 _ (.tail _ (.tail _ (.head _))); simp only at e6 f6 g6; obtain ⟨u8, _, _⟩ := e6; obtain ⟨x8, _, _⟩ := f6; obtain ⟨c9, _, _⟩ := g6; have x1 : (c = cols ∨ n <= (elim F.fld R0 c).2.length) -> ∀ e, e = .returned (.tuple #[.slice A (elim F.fld R0 c).2.length pc, .int .i64 (d : Int)]) -> Sj base g n (elim F.fld R0 cols) w e wr := fun h9 e he => by
   have e9 : elim F.fld R0 cols = elim F.fld R0 c := by
    rcases h9 with rfl | h9
    ·rfl
    ·rw [show cols = c + (cols - c) by omega]
     exact Mm _ _ _ (by omega) _
   rw [e9]; exact ⟨A, pc, d, vs, he, hP.mono j4.size, hG, hB⟩
  by_cases hcc : c = cols
  ·have hf := x1 (.inl hcc)
   have i6 : decide ((c : Int) < (cols : Int)) = false := by simp; omega
   have lE : ¬ c < cols := by omega
   clear x1 hcc; go_wp2; go_ret2; exact hf _ rfl
  ·by_cases hpn : n <= (elim F.fld R0 c).2.length
   ·have hf := x1 (.inr hpn)
    have i6 : (c : Int) < (cols : Int) := by omega
    clear x1 hcc; go_wp2; go_ret2; exact hf _ rfl
   ·have bG : c < m := by omega
    have i6 : (c : Int) < (cols : Int) := by omega
    have d0 : (elim F.fld R0 c).2.length < n := by omega
    have g4 : Mat F.fld m (elim F.fld R0 c).1 := hI.mat; clear x1; obtain ⟨wo, rfl⟩ := xQ wr; have HP := sK hP; have HG := sK hG; have x3 := sK u5; have y3 := sK x5; have m2 := sK q1; have HB := sK hB; have HI := sK hI; obtain ⟨R, hR⟩ := xQ ((elim F.fld R0 c).1); obtain ⟨L, hL⟩ := xQ ((elim F.fld R0 c).2.length); have HR := sK hR; have HL := sK hL; rw [<- hR] at HG s4 b7 g4; rw [<- hL] at HP d0 b7 c7 hpn ⊢; have n2 := sK g4; have m1 : R.length = n := by rw [s4]; exact l8
    clear hP hG u5 x5 q1 hB hI hR hL g4 s4 hcc; have mD : (L : Int) < (n : Int) := by omega
    have rI : w.heap.size + 3 <= wo.heap.size := by omega
    have o1 : Hid (∀ (wx : WQ) (k1 : VQ) (S : LQ), Az wx base g n n k1 S -> Mat F.fld m S -> S.length = n -> ∀ i, i < n -> ∃ b1 d1, wx.cell? ⟨g, i, none⟩ = some (.slice (sQ b1) m d1) ∧ wx.cell? ⟨b1, c, none⟩ = some (.int .i64 (ent S i c : Int)) ∧ m <= d1 ∧ d1 <= maxLen ∧ k1.getD i undef = .slice (sQ b1) m d1) := sK fun wx k1 S r0 bO mF i z9 => by
     have a3 : (S.getD i []).length = m := Mat.len bO (by omega); obtain ⟨b1, d1, h1, h2, h3, h4, h5⟩ := r0.row z9 (by omega); rw [a3] at h1 h2 h5; exact ⟨b1, d1, h2, h5.cell bG, h5.le.1, h5.le.2, h1⟩
    have hZ : (c : Int) < (m : Int) := by omega
    go_wp2; obtain ⟨W1, v1⟩ := xQ (((wo.alloc (.cells #[.int .i64 (L : Int)] 3)).alloc (.cells #[.int .i64 (L : Int)] 3))); have hJ : W1.heap.size = wo.heap.size + 2 := by rw [v1]; simp
    have q8 : From wo W1 := by rw [v1]; exact ((bR).alloc (qb _) _).alloc (by simp) _
    have n5 : Bxs W1 [(wo.heap.size, .int .i64 (L : Int)), (wo.heap.size + 1, .int .i64 (L : Int))] := by
     rw [v1]; refine (Bxs.nil.cons ?_ ?_ ?_).cons ?_ ?_ ?_ <;> first | (simp; done) | go_simp
    rw [<- v1]; clear v1
    go_loopw [] (fun wr => ∃ k, L <= k ∧ k <= n ∧ (∀ i, L <= i -> i < k -> ent R i c = 0) ∧ From wo wr ∧ Bxs wr [(wo.heap.size, .int .i64 (L : Int)), (wo.heap.size + 1, .int .i64 (k : Int))]) (fun wr => n - (intOf ((wr.cell? ⟨wo.heap.size + 1, 0, none⟩).getD undef)).toNat)
    case atStart => exact ⟨L, qb _, by omega, fun i h1 h2 => by omega, q8, n5⟩
    case round =>
     clear n5; obtain ⟨k, o5, v6, g2, a0, s2⟩ := hrel; obtain ⟨b6, s8, t8⟩ := s2 _ (.head _); obtain ⟨z2, bB, bE⟩ := s2 _ (.tail _ (.head _)); simp only at b6 s8 t8 z2 bB bE; have v8 : wr.cell? ⟨w.heap.size, 0, none⟩ = some (pQ b) := (a0.cell (p := ⟨w.heap.size, 0, none⟩) (by simp only; omega)).trans u8; have y8 : wr.cell? ⟨w.heap.size + 1, 0, none⟩ = some (.slice (sQ g) n n) := (a0.cell (p := ⟨w.heap.size + 1, 0, none⟩) (by simp only; omega)).trans x8; have k4 : wr.cell? ⟨w.heap.size + 1 + 1, 0, none⟩ = some (eQ) := (a0.cell (p := ⟨w.heap.size + 1 + 1, 0, none⟩) (by simp only; omega)).trans c9
     by_cases hkn9 : k = n
     ·have lZ : ¬ (k : Int) < (n : Int) := by omega
      have p4 : ((k : Int) == (n : Int)) = true := by simp [hkn9]
      have h7 : elim F.fld R0 (c + 1) = elim F.fld R0 c := by
       show Bg F.fld c (elim F.fld R0 c) = _; unfold Bg; simp only; rw [<- HR.out, <- HL.out, Jj m1 o5 v6 g2 (fun h => by omega)]; rw [if_neg (by omega)]
      have z3 := sK h7; clear h7 hkn9; go_wp2; go_roundw
      case rel =>
       refine ⟨c + 1, A, pc, d, vs, by omega, by go_num, ?_, rfl, hd, ?_, ?_, x3.out, y3.out, m2.below a0, HB.trans (qf a0 (by omega)), qs cD a0.size⟩
       ·rw [z3.out, <- HL.out]
       ·rw [z3.out, <- HL.out]; exact HP.below a0
       ·rw [z3.out, <- HR.out]; exact HG.below a0
      case measure => simp [intOf]; omega
     ·by_cases hkz0 : ent R k c = 0
      ·have bD : (k : Int) < (n : Int) := by omega
       obtain ⟨b1, d1, j1, m0, j3, k3, _⟩ := o1 wr vs R (HG.below a0) n2 m1 k (by omega); have x6 : ∀ i, L <= i -> i < k + 1 -> ent R i c = 0 := fun i h1 h2 => by
        by_cases h3 : i = k
        ·rw [h3]; exact hkz0
        ·exact g2 i h1 (by omega)
       have a8 := sK x6; clear x6; rw [hkz0] at m0; have u9 : (c : Int) < (d1 : Int) := by omega
       go_wp2; go_roundw
       case rel =>
        have lR := Ad wr (wo.heap.size + 1) 0 (.int .i64 ((k : Int) + 1)); refine ⟨k + 1, by omega, by omega, a8.out, ?_, ?_⟩
        ·exact a0.setCell (p := ⟨wo.heap.size + 1, 0, none⟩) (by simp only; omega) _
        ·rw [show ((k + 1 : Nat) : Int) = (k : Int) + 1 by omega]
         exact (s2.swap.set (v := .int .i64 ((k : Int) + 1)) (fun p hp => by simp at hp; subst hp; simp)).swap
       case measure =>
        rw [z2, qaw _ _ _ z2]; simp [intOf]; omega
      ·have f2 : k < n := by omega
       have r6 : fpiv R c (R.length - L) L = k := Jj m1 o5 v6 g2 fun _ => hkz0
       have s7 := sK r6; obtain ⟨b1, d1, j1, m0, j3, k3, _⟩ := o1 wr vs R (HG.below a0) n2 m1 k f2; have bD : (k : Int) < (n : Int) := by omega
       have u9 : (c : Int) < (d1 : Int) := by omega
       have q6 : ((ent R k c : Int) == 0) = false := by simp; exact hkz0
       have p4 : ((k : Int) == (n : Int)) = false := by simp; omega
       have lX : g < wo.heap.size := HG.head.2.1; have lS : base <= g := HG.head.1; have lY : g < w.heap.size := u7.out.2; have d6 : base <= wr.heap.size := qs (by omega) a0.size; have c5 : Hid (Below base w wr) := sK (HB.trans (qf a0 (by omega))); have hE := sK g2; have f5 := sK hkz0; clear r6 g2 hkz0 hkn9; go_upto_if 58 with fail
       go_cut [10] from 21 to 122 (fun dv wx => ∃ (k1 : VQ) (d' : Nat), dv = .int .i64 (d' : Int) ∧ d' < F.q ∧ Az wx base g n n k1 (Cf R L k) ∧ Off k1 n [wo.heap.size, w.heap.size, w.heap.size + 1, w.heap.size + 1 + 1] ∧ (∀ x, A = sQ x -> Off k1 n [x]) ∧ wr.grownBy wx (some g))
       case first =>
        clear j1 m0 q6 p4
        by_cases hkL : k = L
        ·have l1 : ((k : Int) != (L : Int)) = false := by simp [hkL]
         go_wp2; go_meet
         case rel =>
          refine ⟨vs, d, rfl, hd, ?_, x3.more HG (qb _), y3.out, Uq _ _⟩; rw [hkL, Ye R L (by omega)]; exact HG.below a0
        ·have l1 : ((k : Int) != (L : Int)) = true := by simp; omega
         have i7 := eG wr base g n n vs R (HG.below a0) m (fun r hr => (n2 r hr).1) hm0 L k d0 f2 (fun e => hkL e.symm) (wo.heap.size + 1) wo.heap.size z2 b6 (by omega) (by omega); have i8 := sK i7; have d8 := sK ((x3.more HG (qb _)).swap HG.grid.lenV d0 f2); have o2 : Hid (∀ x, A = sQ x -> Off (Hj vs L k) n [x]) := sK fun x hx => (y3 x hx).swap HG.grid.lenV d0 f2
         clear i7 hkL; go_wp2_with (first | (go_at_call 175; refine (mQ wr g n n _ _ _ _ _ y8 i8.out ?_).mono ?_; (· rintro e w4 ⟨i2, q0, f0⟩; exact ⟨i2, f0.cell k4 (fun e => by simp at e; omega)⟩); rintro e w4 ⟨⟨v4, rfl⟩, e4, _, q0, f0⟩; have hO := f0.cell v8 (fun e => by simp at e; omega)) | (go_at_call 66; refine (Tn _ b F (s3 w4 (c5.grown f0 d6 (fun k9 i1 => by simp at i1; omega))) d hd).mono ?_; rintro e w5 ⟨rfl, j5, rfl⟩)); go_meet
         case rel =>
          exact ⟨Hj vs L k, F.neg d, rfl, i3.neg_lt d, q0.below (Ae (bR) j5), d8.out, o2.out, f0.trans (Aw (Ae (bR) j5) _)⟩
       case rest =>
        clear j1 m0 j3 k3 q6 p4; obtain ⟨l3, d9, rfl, n6, r1, p5, s5, g1⟩ := hcut; obtain ⟨wd, rfl⟩ := xQ wc; have hS : Mat F.fld m (Cf R L k) := Hr n2 (by omega) (by omega); have s1 : (Cf R L k).length = n := by rw [Eh]; exact m1
        have p6 : ent (Cf R L k) L c ≠ 0 := by
         unfold ent; rw [Gl (by omega) (by omega)]
         by_cases hkL : L = k
         ·rw [if_pos hkL, hkL]; exact f5.out
         ·rw [if_neg hkL, if_pos rfl]; exact f5.out
        have p3 : Hid (Bg F.fld c (elim F.fld R0 c) = (clr F.fld (Cx F.fld (Cf R L k) L c) L c n, (elim F.fld R0 c).2 ++ [c])) := sK (by
         unfold Bg; simp only; rw [<- HR.out, <- HL.out, s7.out, m1, if_pos f2])
        obtain ⟨S, y5⟩ := xQ (Cf R L k); rw [<- y5] at r1 hS s1 p6 p3; have o4 : ent S L c < F.q := hS.lt o0 L c; obtain ⟨b1, d1, j1, m0, j3, k3, t0⟩ := o1 wd l3 S r1 hS s1 L d0; have lA : c < d1 := by omega
        have f4 : Bxs wd [(w.heap.size, pQ b), (w.heap.size + 1, .slice (sQ g) n n), (w.heap.size + 1 + 1, eQ), (wo.heap.size, .int .i64 (L : Int))] := by
         refine Bxs.kept (w := wr) (fun p hp => ?_) g1 (fun p hp => ?_)
         ·simp only [qx, Kq, or_false] at hp
          rcases hp with rfl | rfl | rfl | rfl
          ·exact m2.below a0 _ (.head _)
          ·exact m2.below a0 _ (.tail _ (.head _))
          ·exact m2.below a0 _ (.tail _ (.tail _ (.head _)))
          ·exact s2 _ (.head _)
         ·simp only [qx, Kq, or_false] at hp
          rcases hp with rfl | rfl | rfl | rfl <;> (intro e; simp at e; omega)
        have r2 : Below base w wd := c5.grown g1 d6 (fun k9 i1 => by simp at i1; omega); have HC : Hid (∀ wx, From wd wx -> wx.cell? ⟨w.heap.size, 0, none⟩ = some (pQ b) ∧ wx.cell? ⟨w.heap.size + 1, 0, none⟩ = some (.slice (sQ g) n n) ∧ wx.cell? ⟨wo.heap.size, 0, none⟩ = some (.int .i64 (L : Int)) ∧ wx.cell? ⟨g, L, none⟩ = some (.slice (sQ b1) m d1) ∧ wx.cell? ⟨b1, c, none⟩ = some (.int .i64 (ent S L c : Int))) := sK fun wx hx => by
         have h9 := f4.below hx; have r0 := r1.below hx; obtain ⟨b2, d2, bX, cA, _, _, r4⟩ := o1 wx l3 S r0 hS s1 L d0; rw [t0] at r4; simp only [qm, qc, qd, and_true, true_and] at r4; obtain ⟨rfl, rfl⟩ := r4; exact ⟨(h9 _ (.head _)).1, (h9 _ (.tail _ (.head _))).1, (h9 _ (.tail _ (.tail _ (.tail _ (.head _))))).1, bX, cA⟩
        have v3 : Hid (∀ wx, From wd wx -> cQ 108 #[pQ b, .int .i64 (d9 : Int), .int .i64 (ent S L c : Int)] wx (Bs (iv (F.mul d9 (ent S L c))) wx)) := sK fun wx hx => Fy wx b F (s3 wx (r2.trans (qf hx (by have := g1.size; omega)))) d9 (ent S L c) n6 o4
        have t3 : Hid (∀ wx, From wd wx -> cQ 177 #[pQ b, .int .i64 (ent S L c : Int)] wx (Bs (.tuple #[iv (F.inv (ent S L c)), iv 0]) wx)) := sK fun wx hx => Pc wx b F (s3 wx (r2.trans (qf hx (by have := g1.size; omega)))) (ent S L c) o4 p6
        have l6 : F.mul d9 (ent S L c) < F.q := i3.mul_lt _ _; have m7 : F.inv (ent S L c) < F.q := o0.invL _ o4; have HZ : Hid (Cx F.fld S L c = S.set L (Bb F.fld (F.inv (ent S L c)) (S.getD L []))) := sK rfl; have v0 := sK r1; have HS := sK hS; have g5 := sK p5; have o2 := sK s5; have HA : Hid (∀ x, A = sQ x -> W.heap.size <= x ∧ x < wo.heap.size) := sK fun x hx => by
         have := HP.form; rw [hx] at this
         rcases this with ⟨h9, _⟩ | ⟨g9, h9, h8, h10, _⟩
         ·cases h9
         ·simp only [qc, qd, and_true] at h9
          subst h9; exact ⟨h8, h10⟩
        have b5 := sK f4; have z4 := sK r2; have r3 := sK g1; have sL : wr.heap.size <= wd.heap.size := g1.size; have m8 := s1; clear j1 m0 t0 r1 hS p5 s5 f4 r2 g1 y5 s1 n6 hd; obtain ⟨d2, m6⟩ : ∃ x, x = F.mul d9 (ent S L c) := ⟨_, rfl⟩
        obtain ⟨z, n7⟩ : ∃ x, x = F.inv (ent S L c) := ⟨_, rfl⟩
        rw [<- m6] at v3 l6; rw [<- n7] at t3 m7 HZ; clear m6 n7; generalize ent S L c = en at *; unfold iv at v3 t3; have k8 : From wd wd := From.refl wd; go_upto_region 15 with fail
        refine wpT 11 125 [.v (pQ b), .v (.int .i64 (d9 : Int)), .v (.slice (sQ g) n n), .v (.int .i64 (L : Int)), .v (.pointer (some ⟨g, L, none⟩)), .v (.slice (sQ b1) m d1), .v (.int .i64 (c : Int)), .v (.pointer (some ⟨b1, c, none⟩)), .v (.int .i64 (en : Int)), .v (.int .i64 (d2 : Int)), .v (.int .i64 (d2 : Int))] wd (by kernel_rfl) (by kernel_rfl) (by kernel_rfl) rfl (From.drew k8) ?_; simp only [Tk]
        iterate 11 (refine .z (fun wx hx _ hK => by first | (go_simp; exact Kz hK) | (obtain ⟨m9, n9, p9, q9, r9⟩ := HC wx hx; go_simp; exact Kz hK) | (go_simp; refine (v3 wx hx).mono ?_; rintro e w' ⟨rfl, j, rfl⟩; exact hK.out _ _ rfl (Ae (bR) _))) ?_; simp only [Pt])
        refine .nil fun w5 eK _ => ?_
        go_upto_region 16 with fail
        refine wpL 13 125 [(11, 9, 75)] [.v (pQ b), .v (.slice (sQ g) n n), .v (.int .i64 (L : Int)), .v (.pointer (some ⟨g, L, none⟩)), .v (.slice (sQ b1) m d1), .v (.int .i64 (c : Int)), .v (.pointer (some ⟨b1, c, none⟩)), .v (.int .i64 (en : Int)), .v (.tuple #[.int .i64 (z : Int), zQ]), .v (.tuple #[.int .i64 (z : Int), zQ]), .v (.int .i64 (z : Int)), .v (zQ), .r (Oh wd.heap.size (zQ)) Oh.lasting] wd (by kernel_rfl) (by kernel_rfl) (by kernel_rfl) (by kernel_rfl) rfl (From.drew eK) (fun x k7 => ?_) (fun _ _ d9 _ _ h => by cases d9 <;> exact h) ?_
        ·simp only [qx, Kq, or_false] at k7
         rcases k7 with rfl
         ·intro a9 o9 v9 wx ho hx hv he
          obtain rfl := Aq ho; obtain rfl : v9 = _ := (hv : (IsV (.tuple #[.int .i64 (z : Int), zQ])) v9 wx)
          exact ⟨zQ, Or.inl ⟨rfl, fun w9 => by simp only [execOp, he]; rfl⟩, rfl⟩
        simp only [Tk]
        iterate 12 (refine .z (fun wx hx _ hK => by first | (go_simp; exact Kz hK) | (obtain ⟨m9, n9, p9, q9, r9⟩ := HC wx hx; go_simp; exact Kz hK) | (go_simp; refine (t3 wx hx).mono ?_; rintro e w' ⟨rfl, j, rfl⟩; exact hK.out _ _ rfl (Ae (bR) _))) ?_; simp only [Pt])
        refine .r (fun wx hx hd KK hK => ?_) (fun sM => ?_)
        ·clear hd
         go_simp; exact hK.out _ _ ⟨_, rfl, hx.size, Bxs.new _ _ _⟩ (Ac _ _)
        simp only [Pt]; refine .nil fun w6 eL hd => ?_
        obtain ⟨k2, rfl, j8, x4⟩ := hd _ (.head _); clear hd; have e5 := sK x4; obtain ⟨d7, f7, cB⟩ := x4 _ (.head _); simp only at d7 f7 cB; clear x4; go_upto_if 92 with fail
        obtain ⟨w7, j2⟩ : ∃ x, x = w6.setCell ⟨k2, 0, none⟩ (.int .i64 (z : Int)) := ⟨_, rfl⟩
        have n0 : From wd w7 := by rw [j2]; exact eL.setCell (p := ⟨k2, 0, none⟩) j8 _
        have y7 : Hid (Bxs w7 [(k2, .int .i64 (z : Int))]) := sK (by rw [j2]; exact e5.set fun p hp => by cases hp); have eB : w7.heap.size = w6.heap.size := by rw [j2]; simp [World.setCell]
        rw [<- j2]; clear j2 d7 f7 e5; have oR := n0.size; have hF : k2 < w7.heap.size := by omega
        clear eB
        go_cut [10] from 21 to 122 (fun dv wx => dv = .int .i64 (d2 : Int) ∧ ∃ (l0 : VQ), Az wx base g n n l0 (Cx F.fld S L c) ∧ Off l0 n [wo.heap.size, w.heap.size, w.heap.size + 1, w.heap.size + 1 + 1] ∧ (∀ x, A = sQ x -> Off l0 n [x]) ∧ w7.grownBy wx (some g))
        case first =>
         by_cases hz1 : z = 1
         ·have hD : ((z : Int) != 1) = false := by simp [hz1]
          have f8 : Hid (S.set L (Bb F.fld z (S.getD L [])) = S) := sK (by
           rw [hz1, Ie o0 (HS.rowLt (by omega)), Dx])
          clear hz1; go_wp2; go_meet
          case rel =>
           refine ⟨rfl, l3, ?_, g5.out, o2.out, Uq _ _⟩; rw [HZ.out, f8.out]; exact v0.below n0
         ·have hD : ((z : Int) != 1) = true := by simp; omega
          obtain ⟨e7, _, _⟩ := y7 _ (.head _); have v2 := HC w7 n0; have y6 := (b5.below n0 _ (.tail _ (.tail _ (.head _)))).1; simp only at y6; have g7 := Zb w0 w7 b F d5 (H0.trans (qf (z4.trans (qf n0 (by omega))) hb0)) base g n n l3 S (v0.below n0) m HS hm0 f3 L d0 z m7 w.heap.size k2 wo.heap.size v2.1 e7 v2.2.2.1 ⟨by omega, by omega, by omega⟩; have g8 := sK g7; have s9 := v2.2.1; clear g7 hz1 v2 e7; go_wp2_with (go_at_call 175; refine (iW w7 g n n _ _ _ _ _ _ s9 g8.out ?_).mono ?_; (· rintro e w4 ⟨b4, d4, i2, q0, i9, j9, f0⟩; exact ⟨i2, f0.cell y6 (fun e => by simp at e; omega)⟩); rintro e w4 ⟨⟨v4, rfl⟩, e4, b4, d4, _, q0, i9, j9, f0⟩); go_meet
          case rel =>
           refine ⟨rfl, _, (by rw [HZ.out]; exact q0), g5.put v0.grid.lenV d0 (by simp; omega), fun x hx => (o2 x hx).put v0.grid.lenV d0 ?_, f0⟩; have := HP.form; rw [hx] at this
           rcases this with ⟨h9, _⟩ | ⟨g9, h9, _, h10, _⟩
           ·cases h9
           ·simp only [qc, qd, and_true] at h9
            subst h9; simp; omega
        case rest =>
         obtain ⟨rfl, l0, j0, q5, t5, z1⟩ := hcut; have hT : Mat F.fld m (Cx F.fld S L c) := Hw o0 HS (by omega); have i4 : (Cx F.fld S L c).length = n := by rw [Fi]; exact m8
         obtain ⟨T, z5⟩ := xQ (Cx F.fld S L c); rw [<- z5] at j0 hT i4 p3; have b0 : Bxs wc [(w.heap.size, pQ b), (w.heap.size + 1, .slice (sQ g) n n), (w.heap.size + 1 + 1, eQ), (wo.heap.size, .int .i64 (L : Int))] := (b5.below n0).kept z1 fun p hp => by
          simp only [qx, Kq, or_false] at hp
          rcases hp with rfl | rfl | rfl | rfl <;> (intro e; simp at e; omega)
         have f1 : OwnN wc W.heap.size A L pc (elim F.fld R0 c).2 := ((((HP.below a0).kept r3 (fun x hx e => by have := HA x hx; simp at e; omega)).below n0).kept z1 (fun x hx e => by have := HA x hx; simp at e; omega))
         have z0 : Below base w wc := (z4.trans (qf n0 (by omega))).grown z1 (by omega) (fun k9 i1 => by simp at i1; omega); have oS : w7.heap.size <= wc.heap.size := z1.size; have HT := sK hT; have i5 := sK q5; have w3 := sK t5; have v0 := sK j0; have y4 := sK b0; have k5 := sK f1; have a5 := sK z0; have hH : T.getD L [] = T.getD L [] := rfl; obtain ⟨l4, x2, m4, n4⟩ : wc.cell? ⟨w.heap.size, 0, none⟩ = some (pQ b) ∧ wc.cell? ⟨w.heap.size + 1, 0, none⟩ = some (.slice (sQ g) n n) ∧ wc.cell? ⟨w.heap.size + 1 + 1, 0, none⟩ = some (eQ) ∧ wc.cell? ⟨wo.heap.size, 0, none⟩ = some (.int .i64 (L : Int)) := ⟨(b0 _ (.head _)).1, (b0 _ (.tail _ (.head _))).1, (b0 _ (.tail _ (.tail _ (.head _)))).1, (b0 _ (.tail _ (.tail _ (.tail _ (.head _))))).1⟩
         have y0 := sK i4; clear j0 hT i4 q5 t5 b0 f1 z0 z5 z1; go_wp2_with fail; clear l4 x2 m4 n4; obtain ⟨we, rfl⟩ := xQ wc
         go_loopw [98] (fun u4 wr => ∃ i, i <= n ∧ u4 = .int .i64 (i : Int) ∧ Az wr base g n n l0 (clr F.fld T L c i) ∧ Bxs wr [(w.heap.size, pQ b), (w.heap.size + 1, .slice (sQ g) n n), (w.heap.size + 1 + 1, eQ), (wo.heap.size, .int .i64 (L : Int))] ∧ OwnN wr W.heap.size A L pc (elim F.fld R0 c).2 ∧ Below base w wr ∧ we.heap.size <= wr.heap.size) (fun u4 _ => n - (intOf u4).toNat)
         case atStart => exact ⟨0, qe _, rfl, v0.out, y4.out, k5.out, a5.out, qb _⟩
         case round =>
          clear v0 y4 k5 a5; obtain ⟨i, u6, rfl, j0, b0, f1, z0, cE⟩ := hrel; obtain ⟨l4, x2, m4, n4⟩ : wr.cell? ⟨w.heap.size, 0, none⟩ = some (pQ b) ∧ wr.cell? ⟨w.heap.size + 1, 0, none⟩ = some (.slice (sQ g) n n) ∧ wr.cell? ⟨w.heap.size + 1 + 1, 0, none⟩ = some (eQ) ∧ wr.cell? ⟨wo.heap.size, 0, none⟩ = some (.int .i64 (L : Int)) := ⟨(b0 _ (.head _)).1, (b0 _ (.tail _ (.head _))).1, (b0 _ (.tail _ (.tail _ (.head _)))).1, (b0 _ (.tail _ (.tail _ (.tail _ (.head _))))).1⟩
          by_cases y2 : i = n
          ·have aC : ¬ (i : Int) < (n : Int) := by omega
           have x0 := sK j0; have p2 := sK f1; have m3 := sK b0; have l2 := sK z0; have v7 := sK y2; clear j0 b0 z0 f1 y2; have t9 : c < 1000000 := by omega
           have oL : W.heap.size <= wr.heap.size := by
            have := r3.size; have := a0.size; omega
           have e8 := sK (p2.alloc (.cells #[.int .i64 (c : Int)] 3)); go_wp2_with (at_builtin; refine Bl rfl (.tmp 119) (.tmp 121) 22 rfl i0 Tryz.underlying22 aA gE hA hC W.heap.size _ _ _ _ rfl e8 _ 0 c rfl (by go_simp) t9 (by omega) (by simp; omega) ?_; intro g' c2 w2 r5 y1 a7); have y2 : i = n := v7.out; have o6 : elim F.fld R0 (c + 1) = (clr F.fld T L c n, (elim F.fld R0 c).2 ++ [c]) := p3.out; have o3 := sK o6; clear o6; have q4 : ∀ x, (Value.slice A L pc).ownBlock = some x -> A = sQ x := fun x hx => by
            have := p2.form
            rcases this with ⟨h9, _⟩ | ⟨g9, h9, _⟩
            ·rw [h9] at hx; simp [Value.ownBlock] at hx
            ·rw [h9] at hx ⊢
             have : g9 = x := by simpa [Value.ownBlock] using hx
             rw [this]
           have g3 : ∀ x, (Value.slice A L pc).ownBlock = some x -> w.heap.size + 3 <= x := fun x hx => by
            have := HA x (q4 x hx); omega
           have t6 : Az w2 base g n n l0 (clr F.fld T L c i) := (x0.alloc (.cells #[.int .i64 (c : Int)] 3)).kept y1 (fun e => by have := g3 g e; omega) (fun j b9 hj w1 e => by
            have := w3 b9 (q4 b9 e) j b9 hj w1; simp at this)
           have h6 : Bxs w2 [(w.heap.size, pQ b), (w.heap.size + 1, .slice (sQ g) n n), (w.heap.size + 1 + 1, eQ)] := by
            refine Bxs.kept (Bxs.below (m3.sub fun p hp => ?_) (Ac wr (.cells #[.int .i64 (c : Int)] 3))) y1 fun p hp e => ?_
            ·simp only [qx, Kq, or_false] at hp ⊢
             rcases hp with rfl | rfl | rfl <;> simp
            ·have := g3 _ e
             simp only [qx, Kq, or_false] at hp
             rcases hp with rfl | rfl | rfl <;> (simp only at this; omega)
           have c6 : Below base w w2 := (l2.alloc (by omega) (.cells #[.int .i64 (c : Int)] 3)).grown y1 (by simp; omega) (fun x hx => by have := g3 x hx; omega); have cC : W.heap.size <= w2.heap.size := by
            have := y1.size; simp at this; omega
           have z6 : ∀ x, (some (⟨g', 0, none⟩ : Addr)) = sQ x -> Off l0 n [x] := fun x hx => by
            simp only [qc, qd, and_true] at hx; subst hx
            rcases a7 with h9 | h9
            ·exact w3 _ h9
            ·intro j b9 hj w1
             have := (x0.blkLt hj w1).2; simp [qi] at h9; simp; omega
           have t7 := sK t6; have p7 := sK h6; have q7 := sK c6; have b8 := sK r5; have c8 := sK z6; clear t6 h6 c6 r5 z6 y1 a7 q4 g3; go_wp2; go_roundw
           case rel =>
            refine ⟨c + 1, sQ g', c2, d2, l0, by omega, by go_num, ?_, rfl, l6, ?_, ?_, i5.less (by simp), c8.out, p7.out, q7.out, cC⟩
            ·rw [o3.out, Hq, <- HL.out]; rfl
            ·rw [o3.out, Hq, <- HL.out]; exact b8.out
            ·rw [o3.out]; have h9 := t7.out; rw [y2] at h9; exact h9
           case measure => simp [intOf]; omega
          ·have aC : (i : Int) < (n : Int) := by omega
           have t2 : Mat F.fld m (clr F.fld T L c i) := Lg o0 HT (by rw [y0.out]; exact d0) i (by rw [y0.out]; exact u6); have a6 : (clr F.fld T L c i).length = n := by rw [Ea]; exact y0.out
           obtain ⟨b3, d3, j1, m0, j3, k3, t0⟩ := o1 wr l0 _ j0 t2 a6 i (by omega); have cF : w.heap.size + 3 <= wr.heap.size ∧ wo.heap.size < wr.heap.size ∧ g < wr.heap.size := by
            have := r3.size; have := a0.size; refine ⟨by omega, by omega, by omega⟩
           have hU : b3 < wr.heap.size := (j0.blkLt (show i < n by omega) (by rw [t0]; rfl)).2; obtain ⟨mL, mS, oE⟩ := cF; have lD : (c : Int) < (d3 : Int) := by omega
           have l7 : ent (clr F.fld T L c i) i c < F.q := t2.lt o0 i c; have j6 : clr F.fld T L c (i + 1) = if i = L then clr F.fld T L c i else (clr F.fld T L c i).set i (addRow F.fld ((clr F.fld T L c i).getD i []) (F.fld.neg (ent (clr F.fld T L c i) i c)) (T.getD L [])) := rfl; have n3 := sK j6; obtain ⟨x, t4⟩ := xQ (ent (clr F.fld T L c i) i c); rw [<- t4] at m0 l7; have l5 := sK t4; have u3 := sK t2; have x0 := sK j0; have p2 := sK f1; have m3 := sK b0; have l2 := sK z0; clear j6 t4 t2 a6 j0 f1 b0 z0; go_upto_region 22 with fail
           obtain ⟨V1, t1⟩ : ∃ x, x = wr.alloc (.cells #[.int .i64 (i : Int)] 3) := ⟨_, rfl⟩
           have u2 : From wr V1 := by rw [t1]; exact Ac _ _
           have a4 : Bxs V1 [(wr.heap.size, .int .i64 (i : Int))] := by rw [t1]; exact Bxs.new _ _ _
           have n8 : V1.heap.size = wr.heap.size + 1 := by rw [t1]; simp
           rw [<- t1]; have cG : V1.cell? ⟨w.heap.size + 1, 0, none⟩ = some (.slice (sQ g) n n) := (u2.cell (p := ⟨w.heap.size + 1, 0, none⟩) (by simp only; omega)).trans x2; have cL : V1.cell? ⟨g, i, none⟩ = some (.slice (sQ b3) m d3) := (u2.cell (p := ⟨g, i, none⟩) (by simp only; omega)).trans j1; have eA : V1.cell? ⟨b3, c, none⟩ = some (.int .i64 (x : Int)) := (u2.cell (p := ⟨b3, c, none⟩) (by simp only; omega)).trans m0; obtain ⟨j7, _, _⟩ := a4 _ (.head _); simp only at j7; have o7 := sK a4; clear t1 a4; go_upto_region 23 with fail
           obtain ⟨V2, u1⟩ : ∃ x9, x9 = V1.alloc (.cells #[.int .i64 (x : Int)] 3) := ⟨_, rfl⟩
           have o8 : From V1 V2 := by rw [u1]; exact Ac _ _
           have c4 : Bxs V2 [(V1.heap.size, .int .i64 (x : Int)), (wr.heap.size, .int .i64 (i : Int))] := by
            rw [u1]; have := o7.below (Ac V1 (.cells #[.int .i64 (x : Int)] 3)) _ (.head _); have h9 := Bxs.new V1 (.int .i64 (x : Int)) 3 _ (.head _); exact (Bxs.nil.cons this.1 this.2.1 this.2.2).cons h9.1 h9.2.1 h9.2.2
           have p8 : V2.heap.size = V1.heap.size + 1 := by rw [u1]; simp
           rw [<- u1]; rw [n8] at c4 p8; clear u1 cG cL eA j7; obtain ⟨⟨eI, _, _⟩, ⟨y9, _, _⟩⟩ : (V2.cell? ⟨wr.heap.size + 1, 0, none⟩ = some (.int .i64 (x : Int)) ∧ _ ∧ _) ∧ (V2.cell? ⟨wr.heap.size, 0, none⟩ = some (.int .i64 (i : Int)) ∧ _ ∧ _) := ⟨c4 _ (.head _), c4 _ (.tail _ (.head _))⟩
           have g0 : From wr V2 := u2.trans (qf o8 (by omega)); have k4 := (g0.cell (p := ⟨w.heap.size + 1 + 1, 0, none⟩) (by simp only; omega)).trans m4; have z8 := (g0.cell (p := ⟨w.heap.size + 1, 0, none⟩) (by simp only; omega)).trans x2; have w8 := (g0.cell (p := ⟨w.heap.size, 0, none⟩) (by simp only; omega)).trans l4; have r8 := (g0.cell (p := ⟨wo.heap.size, 0, none⟩) (by simp only; omega)).trans n4; have hV : b3 ≠ wo.heap.size ∧ b3 ≠ w.heap.size ∧ b3 ≠ w.heap.size + 1 ∧ b3 ≠ w.heap.size + 1 + 1 := by
            have := i5 i b3 (by omega) (by rw [t0]; rfl); simpa using this
           have f9 : ∀ x, A = sQ x -> b3 ≠ x := fun x hx => by
            have := w3 x hx i b3 (by omega) (by rw [t0]; rfl); simpa using this
           have hQ : base <= b3 := (x0.blkLt (show i < n by omega) (by rw [t0]; rfl)).1; have q3 : Hid (∀ w9, V2.grownBy w9 (some b3) -> Bxs w9 [(w.heap.size, pQ b), (w.heap.size + 1, .slice (sQ g) n n), (w.heap.size + 1 + 1, eQ), (wo.heap.size, .int .i64 (L : Int))] ∧ OwnN w9 W.heap.size A L pc (elim F.fld R0 c).2 ∧ Below base w w9 ∧ we.heap.size <= w9.heap.size) := sK fun w9 r0 => by
            refine ⟨(m3.below g0).kept r0 fun p hp => ?_, (p2.below g0).kept r0 fun x hx e => f9 x hx (by simpa using e), (l2.trans (qf g0 (by omega))).grown r0 (by omega) (fun k9 i1 => by simp at i1; omega), qs cE (qs g0.size r0.size)⟩; simp only [qx, Kq, or_false] at hp
            rcases hp with rfl | rfl | rfl | rfl <;> (intro e; simp at e; omega)
           by_cases hiL : i = L
           ·have hX : ((i : Int) != (L : Int)) = false := by simp [hiL]
            have n1 : Hid (clr F.fld T L c (i + 1) = clr F.fld T L c i) := sK (by rw [n3.out, if_pos hiL]); clear hiL; go_wp2; go_roundw
            case rel =>
             obtain ⟨e1, e2, e3, e4⟩ := q3 V2 (Uq _ _); exact ⟨i + 1, by omega, by go_num, (by rw [n1.out]; exact x0.below g0), e1, e2, e3, e4⟩
            case measure => simp [intOf]; omega
           ·have hY : ((i : Int) != (L : Int)) = true := by simp; omega
            by_cases hx0 : x = 0
            ·have eN : ((x : Int) != 0) = false := by simp [hx0]
             have n1 : Hid (clr F.fld T L c (i + 1) = clr F.fld T L c i) := sK (by
              rw [n3.out, if_neg hiL, <- l5.out, hx0]; have a3 : i < (clr F.fld T L c i).length := by rw [Ea, y0.out]; omega
              rw [Hf o0 (u3.len a3) (HT.len (by rw [y0.out]; exact d0)) (u3.rowLt a3) (HT.rowLt (by rw [y0.out]; exact d0)), Dx])
             clear hiL hx0; go_wp2; go_roundw
             case rel =>
              obtain ⟨e1, e2, e3, e4⟩ := q3 V2 (Uq _ _); exact ⟨i + 1, by omega, by go_num, (by rw [n1.out]; exact x0.below g0), e1, e2, e3, e4⟩
             case measure => simp [intOf]; omega
            ·have eN : ((x : Int) != 0) = true := by simp; exact hx0
             have k6 := Ks w0 V2 b F d5 (H0.trans (qf (l2.trans (qf g0 (by omega))) hb0)) base g n n hb0 l0 _ (x0.below g0) m u3 hm0 f3 i L (by omega) d0 hiL x l7 w.heap.size wr.heap.size (wr.heap.size + 1) wo.heap.size w8 y9 eI r8 ⟨by omega, by omega, by omega, by omega⟩ b3 (by rw [t0]; rfl); have n1 : Hid (clr F.fld T L c (i + 1) = (clr F.fld T L c i).set i (addRow F.fld ((clr F.fld T L c i).getD i []) (F.fld.neg x) ((clr F.fld T L c i).getD L []))) := sK (by
              rw [n3.out, if_neg hiL, <- l5.out]; have e9 : (clr F.fld T L c i).getD L [] = T.getD L [] := by rw [Fo _ (by rw [y0.out]; exact u6), if_neg (by omega)]
              rw [e9])
             have r7 := sK k6; clear k6 hiL hx0; go_wp2_with (go_at_call 175; refine (mV V2 g n n _ _ _ _ _ _ _ z8 r7.out ?_).mono ?_; (· rintro e w4 ⟨i2, q0, f0⟩; exact ⟨i2, f0.cell k4 (fun e => by simp at e; omega)⟩); rintro e w4 ⟨⟨v4, rfl⟩, e4, _, q0, f0⟩); go_roundw
             case rel =>
              obtain ⟨e1, e2, e3, e4⟩ := q3 w4 f0; exact ⟨i + 1, by omega, by go_num, (by rw [n1.out]; exact q0), e1, e2, e3, e4⟩
             case measure => simp [intOf]; omega
end Go.Proofs.YtoalkldfhkabnaaGreatDoor
