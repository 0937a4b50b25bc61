/- Part of WholeTraces. -/
import Derived.WalkLawsBesides
import Derived.Deep.OwnRows
import Derived.Test.YtoalkldfhkabnaaGreatDoorW00
set_option linter.all false
set_option maxRecDepth 10000
set_option maxHeartbeats 16000000
namespace Go.Proofs.YtoalkldfhkabnaaGreatDoor
section
open Go.RowKit
theorem Ag {w w' : WQ} {base : Nat} {e : TypeId} {size : Nat} {v : Value} {n : Nat} {xs : VQ} (h : w.ownsRow base e size v n xs) {B : Nat} (hb : Below B w w') (hB : w.heap.size <= B) : w'.ownsRow base e size v n xs := by
 refine ⟨h.1, ?_⟩
 rcases h.2 with h1 | ⟨g, cap, cur, h1, hbg, hg, r⟩
 ·exact .inl h1
 ·exact .inr ⟨g, cap, cur, h1, hbg, by rw [hb.block g (qk (qg.1 hg).1 hB)]; exact hg, r⟩
theorem Dd {w : WQ} {base base' : Nat} {e : TypeId} {size : Nat} {v : Value} {n : Nat} {xs : VQ} (h : w.ownsRow base e size v n xs) (hb : base' <= base) : w.ownsRow base' e size v n xs := by
 refine ⟨h.1, ?_⟩
 rcases h.2 with h1 | ⟨g, cap, cur, h1, hbg, r⟩
 ·exact .inl h1
 ·exact .inr ⟨g, cap, cur, h1, qs hb hbg, r⟩
theorem Ce {w : WQ} {base : Nat} {e : TypeId} {size : Nat} {v : Value} {n : Nat} {xs : VQ} (h : w.ownsRow base e size v n xs) :
  (v = eQ ∧ n = 0 ∧ xs = []) ∨ ∃ b c, v = .slice (sQ b) n c ∧ base <= b ∧ b < w.heap.size ∧ n <= c ∧ c <= maxLen := by
 rcases h.2 with ⟨h1, h2⟩ | ⟨g, cap, cur, h1, hb, hg, hnc, hcm, _⟩
 ·subst h2
  exact .inl ⟨h1, rfl, Lq (by simpa using h.1)⟩
 ·exact .inr ⟨g, cap, h1, hb, (qg.1 hg).1, hnc, hcm⟩
structure Grid (w : WQ) (base : Nat) (er e : TypeId) (size : Nat) (G : OQ) (n c : Nat) (vs : VQ) (rows : List (VQ)) : Prop where
 outer : w.ownsRow base er 1 (.slice G n c) n vs
 lenR : rows.length = n
 inner : ∀ i, i < n -> ∃ m, w.ownsRow base e size (vs.getD i undef) m (rows.getD i [])
 apart : ∀ i, i < n -> ∀ b, (vs.getD i undef).ownBlock = some b -> (Value.slice G n c).ownBlock ≠ some b ∧ ∀ j, j < n -> (vs.getD j undef).ownBlock = some b -> j = i
section
variable {w w' : WQ} {base : Nat} {er e : TypeId} {size : Nat} {G : OQ} {n c : Nat} {vs : VQ} {rows : List (VQ)}
theorem Grid.lenV (h : Grid w base er e size G n c vs rows) : vs.length = n := by
 have := h.outer.1
 omega
theorem Grid.keep (h : Grid w base er e size G n c vs rows) {B : Nat} (hb : Below B w w') (hB : w.heap.size <= B) : Grid w' base er e size G n c vs rows :=
 ⟨Ag h.outer hb hB, h.lenR, fun i hi => by
  obtain ⟨m, hm⟩ := h.inner i hi; exact ⟨m, Ag hm hb hB⟩, h.apart⟩
theorem Grid.below (h : Grid w base er e size G n c vs rows) (hb : Below w.heap.size w w') : Grid w' base er e size G n c vs rows := h.keep hb (qb _)
theorem Grid.lower (h : Grid w base er e size G n c vs rows) {base' : Nat} (hb : base' <= base) : Grid w base' er e size G n c vs rows :=
 ⟨Dd h.outer hb, h.lenR, fun i hi => by
  obtain ⟨m, hm⟩ := h.inner i hi; exact ⟨m, Dd hm hb⟩, h.apart⟩
theorem Grid.head (h : Grid w base er e size G n c vs rows) : (G = none ∧ n = 0 ∧ c = 0) ∨ ∃ g, G = sQ g ∧ base <= g ∧ g < w.heap.size ∧ n <= c ∧ c <= maxLen := by
 rcases Ce h.outer with ⟨h1, h2, _⟩ | ⟨b, c', h1, h2, h3, h4, h5⟩
 ·simp only [qm] at h1
  exact .inl ⟨h1.1, h2, h1.2.2⟩
 ·simp only [qm, true_and] at h1
  obtain ⟨rfl, rfl⟩ := h1; exact .inr ⟨b, rfl, h2, h3, h4, h5⟩
theorem Grid.slot {g : Nat} (h : Grid w base er e size (sQ g) n c vs rows) {i : Nat} (hi : i < n) : w.cell? ⟨g, i, none⟩ = some (vs.getD i undef) := by
 have h1 := h.outer.cellAt i (by omega)
 rw [h1, qa, qh (by rw [h.lenV]; exact hi)]; rfl
theorem Grid.slotFree {g : Nat} (h : Grid w base er e size (sQ g) n c vs rows) (i : Nat) : w.frozen? ⟨g, i, none⟩ = false := h.outer.frozenAt i
theorem Grid.form (h : Grid w base er e size G n c vs rows) {i : Nat} (hi : i < n) : (vs.getD i undef = eQ ∧ rows.getD i [] = []) ∨
  ∃ b m d, vs.getD i undef = .slice (sQ b) m d ∧ base <= b ∧ b < w.heap.size ∧ m <= d ∧ d <= maxLen ∧ (rows.getD i []).length = m * size := by
 obtain ⟨m, hm⟩ := h.inner i hi
 rcases Ce hm with ⟨h1, _, h3⟩ | ⟨b, d, h1, h2, h3, h4, h5⟩
 ·exact .inl ⟨h1, h3⟩
 ·exact .inr ⟨b, m, d, h1, h2, h3, h4, h5, hm.1⟩
theorem Grid.row (h : Grid w base er e size G n c vs rows) {i : Nat} (hi : i < n) {b m d : Nat} (hv : vs.getD i undef = .slice (sQ b) m d) : w.ownsRow base e size (.slice (sQ b) m d) m (rows.getD i []) := by
 obtain ⟨m', hm⟩ := h.inner i hi
 rw [hv] at hm
 have b0 := hm
 rcases Ce hm with ⟨h1, _⟩ | ⟨b', d', h1, _⟩
 ·cases h1
 ·simp only [qm] at h1
  obtain ⟨_, rfl, _⟩ := h1; exact b0
theorem Cm {α : Type} (l : List α) {i : Nat} (x d : α) (h : i < l.length) : (l.set i x).getD i d = x := by
 simp [qa, h]
theorem Fc {α : Type} (l : List α) {i j : Nat} (x d : α) (h : i ≠ j) : (l.set i x).getD j d = l.getD j d := by
 simp [qa, h]
theorem Grid.store (h : Grid w base er e size G n c vs rows) {i : Nat} (hi : i < n) {b m d : Nat} (hv : vs.getD i undef = .slice (sQ b) m d) (k : Nat) (u : Value) :
  Grid (w.setCell ⟨b, k, none⟩ u) base er e size G n c vs (rows.set i ((rows.getD i []).set k u)) := by
 have hr := h.row hi hv
 obtain ⟨hs, hg⟩ := hr.stored k u
 have e0 : (vs.getD i undef).ownBlock = some b := by rw [hv]; rfl
 obtain ⟨ha, hb⟩ := h.apart i hi b e0
 refine ⟨h.outer.kept hg (.inr ha), by rw [qai]; exact h.lenR, fun j hj => ?_, h.apart⟩
 by_cases hij : i = j
 ·subst hij
  rw [Cm _ _ _ (by rw [h.lenR]; exact hi), hv]; exact ⟨m, hs⟩
 ·rw [Fc _ _ _ hij]
  obtain ⟨m', b0⟩ := h.inner j hj; exact ⟨m', b0.kept hg (.inr fun e9 => hij (hb j hj e9).symm)⟩
theorem Grid.put {g : Nat} (h : Grid w base er e size (sQ g) n c vs rows) {i : Nat} (hi : i < n) {v : Value} {m : Nat} {xs : VQ} (hv : w.ownsRow base e size v m xs)
  (hne : ∀ b, v.ownBlock = some b -> b ≠ g ∧ ∀ j, j < n -> j ≠ i -> (vs.getD j undef).ownBlock ≠ some b) :
  Grid (w.setCell ⟨g, i, none⟩ v) base er e size (sQ g) n c (vs.set i v) (rows.set i xs) := by
 obtain ⟨hs, hg⟩ := h.outer.stored i v
 refine ⟨hs, by rw [qai]; exact h.lenR, fun j hj => ?_, fun j hj b hb => ?_⟩
 ·by_cases hij : i = j
  ·subst hij
   rw [Cm _ _ _ (by rw [h.lenV]; exact hi), Cm _ _ _ (by rw [h.lenR]; exact hi)]; refine ⟨m, hv.kept hg ?_⟩
   cases hvb : v.ownBlock with
   | none => exact .inl rfl
   | some b => exact .inr (by intro e9; injection e9 with e9; exact (hne b hvb).1 e9)
  ·rw [Fc _ _ _ hij, Fc _ _ _ hij]
   obtain ⟨m', b0⟩ := h.inner j hj; refine ⟨m', b0.kept hg ?_⟩
   cases hvb : (vs.getD j undef).ownBlock with
   | none => exact .inl rfl
   | some b => exact .inr (by intro e9; injection e9 with e9; subst e9; exact (h.apart j hj _ hvb).1 rfl)
 ·have d0 : ∀ x : Nat, (Value.slice (sQ g) n c).ownBlock ≠ some x ↔ x ≠ g := by
   intro x; simp only [Value.ownBlock, ne_eq, qc]; exact ⟨fun h1 h2 => h1 h2.symm, fun h1 h2 => h1 h2.symm⟩
  by_cases hij : i = j
  ·subst hij
   rw [Cm _ _ _ (by rw [h.lenV]; exact hi)] at hb; obtain ⟨h1, h2⟩ := hne b hb; refine ⟨(d0 b).2 h1, fun j' c0 a0 => ?_⟩
   by_cases hij' : i = j'
   ·exact hij'.symm
   ·rw [Fc _ _ _ hij'] at a0
    exact absurd a0 (h2 j' c0 fun e9 => hij' e9.symm)
  ·rw [Fc _ _ _ hij] at hb
   obtain ⟨h1, h2⟩ := h.apart j hj b hb; refine ⟨h1, fun j' c0 a0 => ?_⟩
   by_cases hij' : i = j'
   ·subst hij'
    rw [Cm _ _ _ (by rw [h.lenV]; exact hi)] at a0; exact absurd hb ((hne b a0).2 j hj fun e9 => hij e9.symm)
   ·rw [Fc _ _ _ hij'] at a0
    exact h2 j' c0 a0
end
end
section
open Go.RowKit
def iv (x : Nat) : Value := nQ x
def Sm (l : NQ) : Prop := ∀ x ∈ l, x < 1000000
theorem Sm.at {l : NQ} (h : Sm l) (j : Nat) : l.getD j 0 < 1000000 := by
 by_cases hj : j < l.length
 ·rw [qa, qh hj]; exact h _ (qcb _)
 ·rw [qa, Mq (by omega)]; simp
theorem Sm.set {l : NQ} (h : Sm l) (k : Nat) {x : Nat} (hx : x < 1000000) : Sm (l.set k x) := fun y hy => by
 rcases Oq hy with h1 | h1
 ·exact h _ h1
 ·rw [h1]; exact hx
theorem Sm.append {l m : NQ} (h : Sm l) (h' : Sm m) : Sm (l ++ m) := fun y hy => by
 rcases qar.1 hy with h1 | h1
 ·exact h _ h1
 ·exact h' _ h1
theorem Sm.nil : Sm [] := fun _ h => by cases h
theorem Sm.one {x : Nat} (hx : x < 1000000) : Sm [x] := fun y hy => by
 obtain rfl : y = x := by simpa using hy
 exact hx
theorem Sm.zeros (n : Nat) : Sm (List.replicate n 0) := fun y hy => by rw [(qav.1 hy).2]; omega
theorem Sm.take {l : NQ} (h : Sm l) (k : Nat) : Sm (l.take k) := fun y hy => h y (qbu hy)
def ivs (l : NQ) : VQ := l.map iv
theorem Cl (l : NQ) : (ivs l).length = l.length := by simp [ivs]
theorem cN (l : NQ) (j : Nat) (hj : j < l.length) : (ivs l)[j]? = some (.int .i64 ((l.getD j 0 : Nat) : Int)) := by
 simp [ivs, iv, hj]
theorem Lb {l : NQ} {j : Nat} {u : Value} (h : (ivs l)[j]? = some u) : j < l.length ∧ u = .int .i64 ((l.getD j 0 : Nat) : Int) := by
 have hj : j < l.length := by
  have := (qbb.1 h).1
  rwa [Cl] at this
 rw [cN l j hj] at h
 exact ⟨hj, by injection h with h; exact h.symm⟩
theorem Tb (l : NQ) : ∀ u ∈ ivs l, u.oneCell' = true := by
 intro u hu
 obtain ⟨_, _, rfl⟩ := qz.1 hu
 rfl
theorem Gm (l m : NQ) : ivs (l ++ m) = ivs l ++ ivs m := by simp [ivs]
theorem cX (l : NQ) (i x : Nat) : (ivs l).set i (nQ x) = ivs (l.set i x) := by simp [ivs, iv]
theorem gA (n : Nat) : ivs (List.replicate n 0) = List.replicate n (zQ) := by simp [ivs, iv]
structure RdN (w : WQ) (A : OQ) (n c : Nat) (l : NQ) : Prop where
 len : l.length = n
 cap : n <= c
 max : c <= maxLen
 sm : Sm l
 cells : 0 < n -> ∃ b a0, A = some ⟨b, a0, none⟩ ∧ b < w.heap.size ∧ ∀ j, j < n -> w.cell? ⟨b, a0 + j, none⟩ = some (.int .i64 ((l.getD j 0 : Nat) : Int))
section
variable {w w' : WQ} {A : OQ} {n c : Nat} {l : NQ}
theorem RdN.le63 (h : RdN w A n c l) : n <= 9223372036854775807 := by
 have := h.cap; have := h.max; unfold maxLen at this; omega
theorem RdN.at (h : RdN w A n c l) {k : Nat} (hk : k < n) : ∃ b a0, A = some ⟨b, a0, none⟩ ∧ b < w.heap.size ∧ w.cell? ⟨b, a0 + k, none⟩ = some (.int .i64 ((l.getD k 0 : Nat) : Int)) := by
 obtain ⟨b, a0, e, hb, hc⟩ := h.cells (by omega)
 exact ⟨b, a0, e, hb, hc k hk⟩
theorem RdN.cellAt {b a0 : Nat} (h : RdN w (some ⟨b, a0, none⟩) n c l) {k : Nat} (hk : k < n) : w.cell? ⟨b, a0 + k, none⟩ = some (.int .i64 ((l.getD k 0 : Nat) : Int)) := by
 obtain ⟨b', d0, e, _, hc⟩ := h.cells (by omega)
 simp only [qc, qd, and_true] at e
 obtain ⟨rfl, rfl⟩ := e
 exact hc k hk
theorem RdN.keep (h : RdN w A n c l) {B : Nat} (hb : Below B w w') (hB : w.heap.size <= B) : RdN w' A n c l :=
 ⟨h.len, h.cap, h.max, h.sm, fun hn => by
  obtain ⟨b, a0, e, b0, hc⟩ := h.cells hn; exact ⟨b, a0, e, qk b0 hb.size, fun j hj => (hb.cell (p := ⟨b, a0 + j, none⟩) (qk b0 hB)).trans (hc j hj)⟩⟩
theorem RdN.below (h : RdN w A n c l) (hb : Below w.heap.size w w') : RdN w' A n c l := h.keep hb (qb _)
theorem RdN.alloc (h : RdN w A n c l) (o : Obj) : RdN (w.alloc o) A n c l := h.below (Ac w o)
theorem RdN.drew (h : RdN w A n c l) : RdN w.drew A n c l := h.below (bR).drew
theorem RdN.head (h : RdN w A n c l) {m : Nat} (hm : m <= n) : RdN w A m c (l.take m) :=
 ⟨by rw [Sq, h.len]; omega, qs hm h.cap, h.max, h.sm.take m, fun h0 => by
  obtain ⟨b, a0, e, b0, hc⟩ := h.cells (by omega); refine ⟨b, a0, e, b0, fun j hj => ?_⟩; rw [hc j (by omega), qa, qa, List.getElem?_take_of_lt hj]⟩
theorem RdN.nil (w : WQ) (c : Nat) (hc : c <= maxLen) : RdN w none 0 c [] := ⟨rfl, qe _, hc, Sm.nil, fun h => absurd h (by omega)⟩
theorem RdN.empty (w : WQ) (A : OQ) (c : Nat) (hc : c <= maxLen) : RdN w A 0 c [] := ⟨rfl, qe _, hc, Sm.nil, fun h => absurd h (by omega)⟩
end
structure OwnN (w : WQ) (base : Nat) (A : OQ) (n c : Nat) (l : NQ) : Prop where
 row : w.ownsRow base 3 1 (.slice A n c) n (ivs l)
 sm : Sm l
section
variable {w w' : WQ} {A : OQ} {n c base : Nat} {l : NQ}
theorem OwnN.len (h : OwnN w base A n c l) : l.length = n := by
 have := h.row.1
 rw [Cl] at this
 omega
theorem OwnN.form (h : OwnN w base A n c l) : (A = none ∧ n = 0 ∧ c = 0) ∨ ∃ g, A = sQ g ∧ base <= g ∧ g < w.heap.size ∧ n <= c ∧ c <= maxLen := by
 rcases Ce h.row with ⟨h1, h2, _⟩ | ⟨b, c', h1, h2, h3, h4, h5⟩
 ·simp only [qm] at h1
  exact .inl ⟨h1.1, h2, h1.2.2⟩
 ·simp only [qm, true_and] at h1
  obtain ⟨rfl, rfl⟩ := h1; exact .inr ⟨b, rfl, h2, h3, h4, h5⟩
theorem OwnN.block (h : OwnN w base A n c l) (hn : 0 < n) : ∃ g, A = sQ g ∧ base <= g ∧ g < w.heap.size := by
 rcases h.form with ⟨_, h0, _⟩ | ⟨g, hA, hb, hg, _⟩
 ·omega
 ·exact ⟨g, hA, hb, hg⟩
theorem OwnN.cell {g : Nat} (h : OwnN w base (sQ g) n c l) {k : Nat} (hk : k < n) : w.cell? ⟨g, k, none⟩ = some (.int .i64 ((l.getD k 0 : Nat) : Int)) := by
 rw [h.row.cellAt k (by omega), cN l k (by rw [h.len]; exact hk)]
theorem OwnN.free {g : Nat} (h : OwnN w base (sQ g) n c l) (k : Nat) : w.frozen? ⟨g, k, none⟩ = false := h.row.frozenAt k
theorem OwnN.le (h : OwnN w base A n c l) : n <= c ∧ c <= maxLen := by
 rcases h.form with ⟨_, rfl, rfl⟩ | ⟨g, _, _, _, h1, h2⟩
 ·exact ⟨qb _, qe _⟩
 ·exact ⟨h1, h2⟩
theorem OwnN.rd (h : OwnN w base A n c l) : RdN w A n c l :=
 ⟨h.len, h.le.1, h.le.2, h.sm, fun hn => by
  obtain ⟨g, rfl, _, hg⟩ := h.block hn; exact ⟨g, 0, rfl, hg, fun j hj => by rw [Zq]; exact h.cell hj⟩⟩
theorem OwnN.set {g : Nat} (h : OwnN w base (sQ g) n c l) (k : Nat) {x : Nat} (hx : x < 1000000) : OwnN (w.setCell ⟨g, k, none⟩ (nQ x)) base (sQ g) n c (l.set k x) :=
 ⟨by rw [<- cX]; exact (h.row.stored k _).1, h.sm.set k hx⟩
theorem OwnN.keep (h : OwnN w base A n c l) {B : Nat} (hb : Below B w w') (hB : w.heap.size <= B) : OwnN w' base A n c l := ⟨Ag h.row hb hB, h.sm⟩
theorem OwnN.below (h : OwnN w base A n c l) (hb : Below w.heap.size w w') : OwnN w' base A n c l := h.keep hb (qb _)
theorem OwnN.alloc (h : OwnN w base A n c l) (o : Obj) : OwnN (w.alloc o) base A n c l := h.below (Ac w o)
theorem OwnN.mono (h : OwnN w base A n c l) {b' : Nat} (hb : b' <= base) : OwnN w b' A n c l := ⟨Dd h.row hb, h.sm⟩
theorem OwnN.nil (w : WQ) (base : Nat) : OwnN w base none 0 0 [] := ⟨Rq w base 3 1, Sm.nil⟩
theorem OwnN.lit (w : WQ) {base : Nat} (l : NQ) (n : Nat) (hl : l.length = n) (hb : base <= w.heap.size) (hn : n <= maxLen) (hx : Sm l) :
  OwnN (w.alloc (.cells (ivs l).toArray 3)) base (sQ w.heap.size) n n l := by
 refine ⟨?_, hx⟩
 have := World.ownsRow_lit (w := w) (base := base) (e := 3) (size := 1) (ivs l).toArray n hb hn (by simp [Cl, hl])
 simpa using this
end
def RetN (n : Nat) (l : NQ) (w : WQ) (x : Ending) (w' : WQ) : Prop :=
 ∃ A c, x = .returned (.slice A n c) ∧ OwnN w' w.heap.size A n c l ∧ Below w.heap.size w w'
theorem Bj : (Tryz.prog.info? 3).map (fun i => (i.zero, i.size, i.bytes)) = some (some (zQ), 1, 8) := by kernel_rfl
section
variable {P : Program} {w : WQ} {ops : Array Oper} {rest : List Oper} {o : Oper} {a : Act} {Q : Exit -> Act -> WQ -> Prop}
theorem Ds (hgd : o.guard = none) (l c : Operand) (t e : TypeId) (ho : o.op = Op.makeSlice t l c) (i : TypeInfo) (z : Value) (B : Nat) (ht : P.underlying t = some (.slice e)) (hi : P.info? e = some i) (hz : i.zero = some z) (hsize : i.size = 1) (hby : i.bytes = B) (hz1 : z.cells = #[z])
  (kl kc : IntKind) (n : Nat) (hl : a.eval l = .int kl (n : Int)) (hc : a.eval c = .int kc (n : Int)) (hB : B <= 100000) (hn : n <= 1000000)
  (h : ∀ w1, w1.ownsRow w.heap.size e 1 (.slice (sQ w.heap.size) n n) n (List.replicate n z) -> Below w.heap.size w w1 -> w1.heap.size = w.heap.size + 1 -> wpList P ops Q rest (a.put o.dst (.slice (sQ w.heap.size) n n)) w1) :
  wpList P ops Q (o :: rest) a w := by
 refine wpList_make_row w hgd l c t ho e i z ht hi hz hsize hz1 kl kc n hl hc (by rw [hby]; exact qs (qbx hB hn) (by omega)) (by omega) ?_
 refine h _ ?_ (Ac _ _) (by simp)
 have c0 : madeCells #[z] n = (List.replicate n z).toArray := by
  have : ∀ n, (madeCells #[z] n).toList = List.replicate n z := by
   intro n; simp only [madeCells, Array.toList_map, Array.toList_range]; refine Tq (by simp) fun j h1 h2 => ?_
   simp [Nat.mod_one]
  rw [<- this n]
 have := World.ownsRow_lit (w := w) (base := w.heap.size) (e := e) (size := 1) (madeCells #[z] n) n (qb _) (by unfold maxLen; omega) (by rw [c0]; simp)
 rw [c0] at this ⊢
 simpa using this
theorem Bd (hgd : o.guard = none) (l c : Operand) (t : TypeId) (ho : o.op = Op.makeSlice t l c) (i : TypeInfo) (ht : P.underlying t = some (.slice 3)) (hi : P.info? 3 = some i) (hz : i.zero = some (zQ)) (hsize : i.size = 1) (hby : i.bytes = 8)
  (kl kc : IntKind) (n : Nat) (hl : a.eval l = .int kl (n : Int)) (hc : a.eval c = .int kc (n : Int)) (hn : n <= 1000000)
  (h : ∀ w1, OwnN w1 w.heap.size (sQ w.heap.size) n n (List.replicate n 0) -> Below w.heap.size w w1 -> w1.heap.size = w.heap.size + 1 -> wpList P ops Q rest (a.put o.dst (.slice (sQ w.heap.size) n n)) w1) :
  wpList P ops Q (o :: rest) a w :=
 Ds hgd l c t 3 ho i (zQ) 8 ht hi hz hsize hby rfl kl kc n hl hc (by omega) hn fun w1 h1 h2 h3 => h w1 ⟨by rw [gA]; exact h1, Sm.zeros n⟩ h2 h3
end
end
section
namespace Fq
def padd (p : Nat) : Nat -> Nat -> Nat -> Nat
 | 0, _, _ => 0
 | m + 1, x, y => (x % p + y % p) % p + p * padd p m (x / p) (y / p)
def pneg (p : Nat) : Nat -> Nat -> Nat
 | 0, _ => 0
 | m + 1, x => (p - x % p) % p + p * pneg p m (x / p)
def smul (p : Nat) : Nat -> Nat -> Nat -> Nat
 | 0, _, _ => 0
 | m + 1, k, x => k * (x % p) % p + p * smul p m k (x / p)
variable {p m : Nat}
theorem Cr (hp : 0 < p) {a b : Nat} (ha : a < p) : (a + p * b) % p = a ∧ (a + p * b) / p = b := by
 constructor
 ·rw [Nat.add_mul_mod_self_left, Bq ha]
 ·rw [Nat.add_mul_div_left _ _ hp, qag ha, Zq]
theorem Gg (hp : 0 < p) {x y : Nat} (h1 : x % p = y % p) (h2 : x / p = y / p) : x = y := by
 have _ := hp
 rw [<- qbn x p, <- qbn y p, h1, h2]
theorem Dr (hp : 0 < p) (x y : Nat) : padd p (m + 1) x y % p = (x % p + y % p) % p := (Cr hp (qu _ hp)).1
theorem Dn (hp : 0 < p) (x y : Nat) : padd p (m + 1) x y / p = padd p m (x / p) (y / p) := (Cr hp (qu _ hp)).2
theorem Ja (hp : 0 < p) (k x : Nat) : smul p (m + 1) k x % p = k * (x % p) % p := (Cr hp (qu _ hp)).1
theorem Kx (hp : 0 < p) (k x : Nat) : smul p (m + 1) k x / p = smul p m k (x / p) := (Cr hp (qu _ hp)).2
theorem Vx (hp : 0 < p) (x : Nat) : pneg p (m + 1) x % p = (p - x % p) % p := (Cr hp (qu _ hp)).1
theorem Xb (hp : 0 < p) (x : Nat) : pneg p (m + 1) x / p = pneg p m (x / p) := (Cr hp (qu _ hp)).2
theorem Ld (hp : 0 < p) {a b q : Nat} (ha : a < p) (hb : b < q) : a + p * b < q * p := by
 have _ := hp
 have : p * b + p <= p * q := by rw [<- qco]; exact qbg p hb
 rw [qw q p]; omega
theorem Np (hp : 0 < p) : ∀ (m x y : Nat), padd p m x y < p ^ m
 | 0, _, _ => by simp [padd]
 | m + 1, x, y => by rw [qr]; exact Ld hp (qu _ hp) (Np hp m _ _)
theorem Dl (hp : 0 < p) : ∀ (m k x : Nat), smul p m k x < p ^ m
 | 0, _, _ => by simp [smul]
 | m + 1, k, x => by rw [qr]; exact Ld hp (qu _ hp) (Dl hp m _ _)
theorem dO (hp : 0 < p) : ∀ (m x : Nat), pneg p m x < p ^ m
 | 0, _ => by simp [pneg]
 | m + 1, x => by rw [qr]; exact Ld hp (qu _ hp) (dO hp m _)
theorem Bw {x : Nat} (hp : 0 < p) (h : x < p ^ (m + 1)) : x / p < p ^ m := by
 rw [qaq hp, <- qr]; exact h
theorem Cj : ∀ (m x y : Nat), padd p m x y = padd p m y x
 | 0, _, _ => rfl
 | m + 1, x, y => by rw [padd, padd, Cj m, Nat.add_comm (x % p)]
theorem Ee (hp : 0 < p) : ∀ (m x y z : Nat), padd p m (padd p m x y) z = padd p m x (padd p m y z)
 | 0, _, _, _ => rfl
 | m + 1, x, y, z => by
  refine Gg hp ?_ ?_
  ·simp only [Dr hp, qdd, qde, qay]
  ·simp only [Dn hp, Ee hp m]
theorem Dg (hp : 0 < p) : ∀ {m x : Nat}, x < p ^ m -> padd p m x 0 = x
 | 0, x, h => by simp at h; subst h; rfl
 | m + 1, x, h => by
  rw [padd, qcc, qcd, Nat.mod_mod, Nat.zero_div, Dg hp (Bw hp h), qbn]
theorem Gi (hp : 0 < p) {m x : Nat} (h : x < p ^ m) : padd p m 0 x = x := by rw [Cj, Dg hp h]
theorem Qh (hp : 0 < p) : ∀ (m x : Nat), padd p m x (pneg p m x) = 0
 | 0, _ => rfl
 | m + 1, x => by
  have h1 : (x % p + (p - x % p) % p) % p = 0 := by
   rw [qde, Nat.add_sub_cancel' (Nat.le_of_lt (qu _ hp)), Nat.mod_self]
  rw [padd, Vx hp, Xb hp, Qh hp m, h1, qce]
theorem Na (hp : 0 < p) {x y z : Nat} (hy : y < p ^ m) (hz : z < p ^ m) (h : padd p m x y = padd p m x z) : y = z := by
 have h1 : padd p m (pneg p m x) (padd p m x y) = padd p m (pneg p m x) (padd p m x z) := by rw [h]
 rw [<- Ee hp, <- Ee hp, Cj m (pneg p m x) x, Qh hp, Gi hp hy, Gi hp hz] at h1
 exact h1
theorem Jc (hp : 0 < p) : ∀ (m k x y : Nat), smul p m k (padd p m x y) = padd p m (smul p m k x) (smul p m k y)
 | 0, _, _, _ => rfl
 | m + 1, k, x, y => by
  refine Gg hp ?_ ?_
  ·simp only [Ja hp, Dr hp, Nat.mul_mod_mod, qcy, qdd, qde]
  ·simp only [Kx hp, Dn hp, Jc hp m]
theorem El (hp : 0 < p) : ∀ (m j k x : Nat), smul p m (j + k) x = padd p m (smul p m j x) (smul p m k x)
 | 0, _, _, _ => rfl
 | m + 1, j, k, x => by
  refine Gg hp ?_ ?_
  ·simp only [Ja hp, Dr hp, qcl, qdd, qde]
  ·simp only [Kx hp, Dn hp, El hp m]
theorem Gy (hp : 0 < p) : ∀ (m k x : Nat), smul p m (k % p) x = smul p m k x
 | 0, _, _ => rfl
 | m + 1, k, x => by
  rw [smul, smul, Gy hp m, Nat.mod_mul_mod]
theorem Di (hp : 0 < p) : ∀ (m x : Nat), smul p m 0 x = 0
 | 0, _ => rfl
 | m + 1, x => by simp [smul, Di hp m]
theorem Fh (hp : 0 < p) : ∀ (m k : Nat), smul p m k 0 = 0
 | 0, _ => rfl
 | m + 1, k => by simp [smul, Fh hp m]
theorem Em (hp : 0 < p) : ∀ {m x : Nat}, x < p ^ m -> smul p m 1 x = x
 | 0, x, h => by simp at h; subst h; rfl
 | m + 1, x, h => by rw [smul, qbv, Nat.mod_mod, Em hp (Bw hp h), qbn]
theorem rE (hp : 0 < p) (m x : Nat) : smul p m p x = 0 := by
 rw [<- Gy hp, Nat.mod_self, Di hp]
def Add (p m : Nat) (f : Nat -> Nat) : Prop := (∀ x, x < p ^ m -> f x < p ^ m) ∧ ∀ x y, x < p ^ m -> y < p ^ m -> f (padd p m x y) = padd p m (f x) (f y)
theorem Eb (hp : 0 < p) (m : Nat) : 0 < p ^ m := qbd hp
theorem Add.zero (hp : 0 < p) {f : Nat -> Nat} (h : Add p m f) : f 0 = 0 := by
 have h0 := Eb hp m
 have h1 := h.2 0 0 h0 h0
 rw [Dg hp h0] at h1
 have h2 : padd p m (f 0) (f 0) = padd p m (f 0) 0 := by rw [<- h1, Dg hp (h.1 0 h0)]
 exact Na hp (h.1 0 h0) h0 h2
theorem Add.smul (hp : 0 < p) {f : Nat -> Nat} (h : Add p m f) {x : Nat} (hx : x < p ^ m) : ∀ k, f (smul p m k x) = Fq.smul p m k (f x)
 | 0 => by rw [Di hp, Di hp, h.zero hp]
 | k + 1 => by
  rw [El hp, El hp, h.2 _ _ (Dl hp _ _ _) (Dl hp _ _ _), Add.smul hp h hx k, Em hp hx, Em hp (h.1 x hx)]
def mX (p m v x : Nat) : Nat := padd p (m + 1) (p * (x % p ^ m)) (smul p (m + 1) (p - x / p ^ m) v)
theorem Ws (hp : 0 < p) (v x : Nat) : mX p m v x < p ^ (m + 1) := Np hp _ _ _
theorem Yw (hp : 0 < p) (x y : Nat) : padd p (m + 1) (p * x) (p * y) = p * padd p m x y := by
 rw [padd, qat, qat, qab _ hp, qab _ hp]; simp
theorem Ul (hp : 0 < p) : ∀ (m x y : Nat), padd p (m + 1) x y % p ^ m = padd p m (x % p ^ m) (y % p ^ m)
 | 0, x, y => by simp [Nat.mod_one, padd]
 | m + 1, x, y => by
  have hq := Eb hp m; have key : ∀ z : Nat, z % p ^ (m + 1) % p = z % p ∧ z % p ^ (m + 1) / p = z / p % p ^ m := fun z => by
   rw [qr]; exact ⟨Nat.mod_mod_of_dvd z (qcs p (p ^ m)), by rw [qw, qbs]⟩
  refine Gg hp ?_ ?_
  ·rw [(key _).1, Dr hp, Dr hp, (key x).1, (key y).1]
  ·rw [(key _).2, Dn hp, Dn hp, (key x).2, (key y).2, Ul hp m]
theorem Vb (hp : 0 < p) : ∀ (m x y : Nat), x < p ^ (m + 1) -> y < p ^ (m + 1) -> padd p (m + 1) x y / p ^ m = (x / p ^ m + y / p ^ m) % p
 | 0, x, y, hx, hy => by
  simp at hx hy; simp [padd, Bq hx, Bq hy]
 | m + 1, x, y, hx, hy => by
  have key : ∀ z : Nat, z / p ^ (m + 1) = z / p / p ^ m := fun z => by
   rw [qr, qw, qah]
  rw [key, key x, key y, Dn hp, Vb hp m _ _ (Bw hp hx) (Bw hp hy)]
theorem kZ (hp : 0 < p) (m a b c d : Nat) : padd p m (padd p m a b) (padd p m c d) = padd p m (padd p m a c) (padd p m b d) := by
 rw [Ee hp, <- Ee hp m b c d, Cj m b c, Ee hp m c b d, <- Ee hp]
theorem Uc (hp : 0 < p) (m : Nat) {s t : Nat} (v : Nat) (hs : s < p) (ht : t < p) : smul p m (p - (s + t) % p) v = padd p m (smul p m (p - s) v) (smul p m (p - t) v) := by
 rw [<- El hp, <- Gy hp m (p - (s + t) % p), <- Gy hp m (p - s + (p - t))]
 congr 1
 by_cases h : s + t < p
 ·rw [Bq h]
  rw [show p - s + (p - t) = p - (s + t) + p by omega, Nat.add_mod_right]
 ·have h1 : (s + t) % p = s + t - p := by rw [Nat.mod_eq_sub_mod (by omega), Bq (by omega)]
  rw [h1]
  congr 1
  omega
theorem Gp (hp : 0 < p) (v : Nat) : Add p (m + 1) (mX p m v) := by
 refine ⟨fun x _ => Ws hp v x, fun x y hx hy => ?_⟩
 have e0 : x / p ^ m < p := by rw [qaq (Eb hp m), qw, <- qr]; exact hx
 have f0 : y / p ^ m < p := by rw [qaq (Eb hp m), qw, <- qr]; exact hy
 unfold mX
 rw [Ul hp, Vb hp m x y hx hy, <- Yw hp, Uc hp _ _ e0 f0, kZ hp]
theorem Hk {v x : Nat} (hp : 0 < p) (h : x < p ^ m) : mX p m v x = p * x := by
 unfold mX
 rw [Bq h, qag h, Nat.sub_zero, rE hp, Dg hp]
 rw [qr, qw (p ^ m)]
 exact Nat.mul_lt_mul_of_pos_left h hp
def hmul (p m v x : Nat) : Nat -> Nat -> Nat
 | 0, _ => 0
 | n + 1, y => padd p (m + 1) (mX p m v (hmul p m v x n (y / p))) (smul p (m + 1) (y % p) x)
section mul
variable {v : Nat} (hp : 1 < p)
include hp
theorem Hc (x : Nat) : ∀ n y, hmul p m v x n y < p ^ (m + 1)
 | 0, _ => Eb (by omega) _
 | n + 1, y => Np (by omega) _ _ _
theorem Rk (n y : Nat) : Add p (m + 1) fun x => hmul p m v x n y := by
 have a0 : 0 < p := by omega
 refine ⟨fun x _ => Hc hp x n y, fun x z hx hz => ?_⟩
 induction n generalizing y with
 | zero => simp only [hmul]; rw [Dg a0 (Eb a0 _)]
 | succ n ih =>
  simp only [hmul]; have c0 := ih (y / p); simp only at c0; rw [c0, (Gp a0 v).2 _ _ (Hc hp _ _ _) (Hc hp _ _ _), Jc a0, kZ a0]
theorem Rj (x : Nat) : ∀ n y z, hmul p m v x n (padd p n y z) = padd p (m + 1) (hmul p m v x n y) (hmul p m v x n z)
 | 0, _, _ => by simp only [hmul]; rw [Dg (by omega) (Eb (by omega) _)]
 | n + 1, y, z => by
  have a0 : 0 < p := by omega
  simp only [hmul]; rw [Dn a0, Dr a0, Rj x n, (Gp a0 v).2 _ _ (Hc hp _ _ _) (Hc hp _ _ _), Gy a0, El a0, kZ a0]
theorem Gh (x : Nat) : ∀ n, hmul p m v x n 0 = 0
 | 0 => rfl
 | n + 1 => by
  have a0 : 0 < p := by omega
  simp only [hmul, Nat.zero_div, qcc]; rw [Gh x n, Di a0, (Gp a0 v).zero a0, Dg a0 (Eb a0 _)]
theorem nV {x : Nat} (hx : x < p ^ (m + 1)) : ∀ n y, mX p m v (hmul p m v x n y) = hmul p m v (mX p m v x) n y
 | 0, _ => (Gp (by omega) v).zero (by omega)
 | n + 1, y => by
  have a0 : 0 < p := by omega
  simp only [hmul]; rw [(Gp a0 v).2 _ _ (Ws a0 _ _) (Dl a0 _ _ _), (Gp a0 v).smul a0 hx, nV hx n]
theorem mM {x : Nat} (hx : x < p ^ (m + 1)) (n : Nat) : hmul p m v x (n + 1) 1 = x := by
 have a0 : 0 < p := by omega
 simp only [hmul]
 rw [qag hp, Bq hp, Gh hp, (Gp a0 v).zero a0, Em a0 hx, Gi a0 hx]
theorem Se (x : Nat) : ∀ n y, y < p ^ n -> hmul p m v x (n + 1) y = hmul p m v x n y
 | 0, y, h => by
  simp at h; subst h; rw [Gh hp, Gh hp]
 | n + 1, y, h => by
  rw [hmul, Se x n _ (Bw (by omega) h)]; rfl
theorem rH (x n y : Nat) : hmul p m v x (n + 1) (p * y) = mX p m v (hmul p m v x n y) := by
 have a0 : 0 < p := by omega
 rw [hmul, qab _ a0, qat, Di a0, Dg a0 (Ws a0 _ _)]
theorem Nm {n y : Nat} (h : y < p ^ (n + 1)) : padd p (n + 1) (p * (y / p)) (smul p (n + 1) (y % p) 1) = y := by
 have a0 : 0 < p := by omega
 have h1 : smul p (n + 1) (y % p) 1 = y % p := by
  rw [smul, Bq hp, qag hp, Fh a0, qbw, Nat.mod_mod, qce, qcd]
 rw [h1]
 refine Gg a0 ?_ ?_
 ·rw [Dr a0, qat, Zq, Nat.mod_mod, Nat.mod_mod]
 ·rw [Dn a0, qab _ a0, qag (qu y a0), Dg a0 (Bw a0 h)]
theorem Ju : ∀ n y, n <= m + 1 -> y < p ^ n -> hmul p m v 1 n y = y
 | 0, y, _, h => by simp at h; subst h; rfl
 | n + 1, y, hn, h => by
  have a0 : 0 < p := by omega
  have h1 := Bw a0 h; have h2 : p ^ n <= p ^ m := qy a0 (by omega); have h3 : p ^ (n + 1) <= p ^ (m + 1) := qy a0 hn; rw [hmul, Ju n _ (by omega) h1, Hk a0 (by omega)]; have h4 : y < p ^ (m + 1) := by omega
  exact Nm hp h4
theorem Wk {C : Nat -> Prop} (h0 : C 0) (h1 : C 1) (ha : ∀ x y, x < p ^ (m + 1) -> y < p ^ (m + 1) -> C x -> C y -> C (padd p (m + 1) x y)) (hX : ∀ x, x < p ^ m -> C x -> C (p * x)) : ∀ x, x < p ^ (m + 1) -> C x := by
 have a0 : 0 < p := by omega
 have b0 : 1 < p ^ (m + 1) := by
  have h9 := qby (n := m + 1) (by omega) hp; exact h9
 have hs : ∀ k, C (smul p (m + 1) k 1) := by
  intro k
  induction k with
  | zero => rw [Di a0]; exact h0
  | succ k ih => rw [El a0, Em a0 b0]; exact ha _ _ (Dl a0 _ _ _) b0 ih h1
 have : ∀ n, n <= m + 1 -> ∀ x, x < p ^ n -> C x := by
  intro n
  induction n with
  | zero => intro _ x hx; simp at hx; subst hx; exact h0
  | succ n ih =>
   intro hn x hx; have d0 := Bw a0 hx; have h2 : p ^ n <= p ^ m := qy a0 (by omega); have h3 : p ^ (n + 1) <= p ^ (m + 1) := qy a0 hn; have h4 : x < p ^ (m + 1) := by omega
   rw [<- Nm hp h4]; have h5 : p * (x / p) < p ^ (m + 1) := Nat.lt_of_le_of_lt (Nat.mul_div_le x p) h4; exact ha _ _ h5 (Dl a0 _ _ _) (hX _ (by omega) (ih (by omega) _ d0)) (hs _)
 exact this (m + 1) (qb _)
def mul (p m v x y : Nat) : Nat := hmul p m v x (m + 1) y
theorem mul_lt (x y : Nat) : mul p m v x y < p ^ (m + 1) := Hc hp _ _ _
theorem Tr {x z y : Nat} (hx : x < p ^ (m + 1)) (hz : z < p ^ (m + 1)) : mul p m v (padd p (m + 1) x z) y = padd p (m + 1) (mul p m v x y) (mul p m v z y) := (Rk hp (m + 1) y).2 x z hx hz
theorem mul_add (x y z : Nat) : mul p m v x (padd p (m + 1) y z) = padd p (m + 1) (mul p m v x y) (mul p m v x z) := Rj hp x (m + 1) y z
theorem mul_zero (x : Nat) : mul p m v x 0 = 0 := Gh hp x _
theorem zero_mul (y : Nat) : mul p m v 0 y = 0 := (Rk hp (m + 1) y).zero (by omega)
theorem mul_one {x : Nat} (hx : x < p ^ (m + 1)) : mul p m v x 1 = x := mM hp hx m
theorem one_mul {x : Nat} (hx : x < p ^ (m + 1)) : mul p m v 1 x = x := Ju hp _ _ (qb _) hx
theorem aK (x : Nat) {y : Nat} (hy : y < p ^ m) : mul p m v x (p * y) = mX p m v (mul p m v x y) := by
 unfold mul
 rw [rH hp, Se hp x m y hy]
theorem jK {x : Nat} (hx : x < p ^ (m + 1)) (y : Nat) : mX p m v (mul p m v x y) = mul p m v (mX p m v x) y := nV hp hx _ _
theorem mul_comm {x y : Nat} (hx : x < p ^ (m + 1)) (hy : y < p ^ (m + 1)) : mul p m v x y = mul p m v y x := by
 refine Wk hp (C := fun x => mul p m v x y = mul p m v y x) ?_ ?_ (fun a b ha hb h1 h2 => ?_) (fun a ha h1 => ?_) x hx
 ·rw [zero_mul hp, mul_zero hp]
 ·rw [one_mul hp hy, mul_one hp hy]
 ·rw [Tr hp ha hb, mul_add hp, h1, h2]
 ·have h3 : p ^ m < p ^ (m + 1) := qax hp (by omega)
  rw [aK hp y ha, <- h1, jK hp (by omega), Hk (by omega) ha]
theorem nW {x y : Nat} (hx : x < p ^ (m + 1)) (hy : y < p ^ (m + 1)) : mul p m v x (mX p m v y) = mX p m v (mul p m v x y) := by
 rw [mul_comm hp hx (Ws (by omega) _ _), <- jK hp hy, mul_comm hp hy hx]
theorem mul_assoc {x y z : Nat} (hx : x < p ^ (m + 1)) (hy : y < p ^ (m + 1)) (hz : z < p ^ (m + 1)) : mul p m v (mul p m v x y) z = mul p m v x (mul p m v y z) := by
 refine Wk hp (C := fun z => mul p m v (mul p m v x y) z = mul p m v x (mul p m v y z)) ?_ ?_ (fun a b ha hb h1 h2 => ?_) (fun a ha h1 => ?_) z hz
 ·rw [mul_zero hp, mul_zero hp, mul_zero hp]
 ·rw [mul_one hp (mul_lt hp _ _), mul_one hp hy]
 ·rw [mul_add hp, mul_add hp, mul_add hp, h1, h2]
 ·have h3 : p ^ m < p ^ (m + 1) := qax hp (by omega)
  have h4 : a < p ^ (m + 1) := by omega
  rw [<- Hk (v := v) (by omega) ha, nW hp (mul_lt hp _ _) h4, nW hp hy h4, nW hp hx (mul_lt hp _ _), h1]
end mul
end Fq
namespace Fq
def digs (p : Nat) : Nat -> Nat -> NQ
 | 0, _ => []
 | m + 1, x => x % p :: digs p m (x / p)
def val (p : Nat) (l : NQ) : Nat := l.foldr (fun d x => d + p * x) 0
theorem Cb (p : Nat) : ∀ m x, (digs p m x).length = m
 | 0, _ => rfl
 | m + 1, x => by rw [digs, qan, Cb p m]
theorem Gw {p : Nat} (hp : 0 < p) : ∀ m x, x < p ^ m -> val p (digs p m x) = x
 | 0, x, h => by simp at h; subst h; rfl
 | m + 1, x, h => by
  show x % p + p * val p (digs p m (x / p)) = x; rw [Gw hp m _ (Bw hp h), qbn]
theorem We {p : Nat} (hp : 0 < p) : ∀ l : NQ, (∀ x ∈ l, x < p) -> digs p l.length (val p l) = l
 | [], _ => rfl
 | d :: l, h => by
  have h1 := h d (by simp); show (d + p * val p l) % p :: digs p l.length ((d + p * val p l) / p) = d :: l; rw [(Cr hp h1).1, (Cr hp h1).2, We hp l fun x hx => h x (by simp [hx])]
theorem Dy {p : Nat} (hp : 0 < p) : ∀ m x, ∀ d ∈ digs p m x, d < p
 | m + 1, x, d, h => by
  rcases qx.1 h with rfl | h
  ·exact qu _ hp
  ·exact Dy hp m _ d h
theorem Yh {p : Nat} (hp : 0 < p) : ∀ l : NQ, (∀ x ∈ l, x < p) -> val p l < p ^ l.length
 | [], _ => by simp [val]
 | d :: l, h => by
  rw [qan, qr]; exact Ld hp (h d (by simp)) (Yh hp l fun x hx => h x (by simp [hx]))
theorem Gu {p : Nat} (_hp : 0 < p) : ∀ m x j, j < m -> (digs p m x).getD j 0 = x / p ^ j % p
 | m + 1, x, 0, _ => by simp [digs]
 | m + 1, x, j + 1, h => by
  rw [digs, List.getD_cons_succ, Gu _hp m _ j (by omega), qah, qr, qw]
end Fq
namespace Fq
theorem pP (x y : Nat) : (x ^^^ y) % 2 = (x % 2 + y % 2) % 2 := by
 rw [<- Nat.and_one_is_mod, Nat.and_xor_distrib_right]
 rcases Nat.mod_two_eq_zero_or_one x with h | h <;> rcases Nat.mod_two_eq_zero_or_one y with h' | h' <;> simp [h, h']
theorem Vo : ∀ m x y, x < 2 ^ m -> y < 2 ^ m -> padd 2 m x y = x ^^^ y
 | 0, x, y, hx, hy => by simp at hx hy; subst hx; subst hy; rfl
 | m + 1, x, y, hx, hy => by
  have h0 : 0 < 2 := by omega
  refine Gg h0 ?_ ?_
  ·rw [Dr h0, pP]
  ·rw [Dn h0, Vo m _ _ (Bw h0 hx) (Bw h0 hy), Nat.xor_div_two]
theorem Tl {p : Nat} : ∀ m, padd p m 0 0 = 0
 | 0 => rfl
 | m + 1 => by simp [padd, Tl m]
end Fq
end
end Go.Proofs.YtoalkldfhkabnaaGreatDoor
