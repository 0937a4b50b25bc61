/-
  Slices of limbs in memory: what a slice value reads as, and what is kept of it when the world goes on.
-/
import Derived.WalkKit
import Derived.WalkSpells
import Derived.WalkLawsBesides
import Derived.Test.YtfggecdgnidhfaaDoorMath
namespace Go.Proofs.YtfggecdgnidhfaaDoor
open Go.RowKit

/-- A fact kept from the walk. -/
theorem hide {p : Prop} (h : p) : Hid p := h

/-- Two stretches of a call in a row. -/
theorem below_step {w0 w1 w2 : World} (hb : Below w1.heap.size w1 w2) (h : Below w0.heap.size w0 w1) : Below w0.heap.size w0 w2 := h.trans (hb.mono h.size)
theorem below_alloc (w : World) (o : Obj) : Below w.heap.size w (w.alloc o) := (Below.refl _ _).alloc (Nat.le_refl _) _

theorem below_drewN {B : Nat} {a w : World} (h : Below B a w) (n : Nat) : Below B a (w.drewN n) := ⟨h.os, h.tape, h.output, h.size, h.block⟩

/-- A call that returns v and makes memory alone. -/
def Makes (v : Value) (w : World) (e : Ending) (w' : World) : Prop := e = .returned v ∧ Below w.heap.size w w'

/-- The slice value '.slice A n c' reads as the limbs l. -/
structure Rd (w : World) (A : Option Addr) (n c : Nat) (l : List Nat) : Prop where
  len : l.length = n
  cap : n ≤ c
  max : c ≤ maxLen
  lims : Lims l
  cells : 0 < n → ∃ b off, A = some ⟨b, off, none⟩ ∧ b < w.heap.size ∧ ∀ j, j < n → w.cell? ⟨b, off + j, none⟩ = some (.int .u32 ((lim l j : Nat) : Int))

section
variable {w w' : World} {A : Option Addr} {n c : Nat} {l : List Nat}

theorem Rd.le63 (h : Rd w A n c l) : n ≤ 9223372036854775807 := by
  have := h.cap; have := h.max; unfold maxLen at this; omega

theorem Rd.at (h : Rd w A n c l) {k : Nat} (hk : k < n) : ∃ b off, A = some ⟨b, off, none⟩ ∧ b < w.heap.size ∧ w.cell? ⟨b, off + k, none⟩ = some (.int .u32 ((lim l k : Nat) : Int)) := by
  obtain ⟨b, off, e, hb, hc⟩ := h.cells (by omega)
  exact ⟨b, off, e, hb, hc k hk⟩

theorem Rd.cellAt {b off : Nat} (h : Rd w (some ⟨b, off, none⟩) n c l) {k : Nat} (hk : k < n) : w.cell? ⟨b, off + k, none⟩ = some (.int .u32 ((lim l k : Nat) : Int)) := by
  obtain ⟨b', off', e, _, hc⟩ := h.cells (by omega)
  simp only [Option.some.injEq, Addr.mk.injEq, and_true] at e
  obtain ⟨rfl, rfl⟩ := e
  exact hc k hk

theorem Rd.keep (h : Rd w A n c l) {B : Nat} (hb : Below B w w') (hB : w.heap.size ≤ B) : Rd w' A n c l :=
  ⟨h.len, h.cap, h.max, h.lims, fun hn => by
    obtain ⟨b, off, e, hlt, hc⟩ := h.cells hn
    exact ⟨b, off, e, Nat.lt_of_lt_of_le hlt hb.size, fun j hj => (hb.cell (p := ⟨b, off + j, none⟩) (Nat.lt_of_lt_of_le hlt hB)).trans (hc j hj)⟩⟩

theorem Rd.below (h : Rd w A n c l) (hb : Below w.heap.size w w') : Rd w' A n c l := h.keep hb (Nat.le_refl _)

theorem Rd.cut (h : Rd w A n c l) {m : Nat} (hm : m ≤ n) : Rd w A m m (l.take m) :=
  ⟨by rw [List.length_take, h.len]; omega, Nat.le_refl _, by have := h.cap; have := h.max; omega, h.lims.take m, fun h0 => by
    obtain ⟨b, off, e, hlt, hc⟩ := h.cells (by omega)
    exact ⟨b, off, e, hlt, fun j hj => by rw [getD_take _ _ _ hj]; exact hc j (by omega)⟩⟩

theorem Rd.head (h : Rd w A n c l) {m : Nat} (hm : m ≤ n) : Rd w A m c (l.take m) :=
  ⟨(h.cut hm).len, Nat.le_trans hm h.cap, h.max, h.lims.take m, (h.cut hm).cells⟩

theorem Rd.nil (w : World) : Rd w none 0 0 [] := ⟨rfl, Nat.le_refl _, Nat.zero_le _, Lims.nil, fun h => absurd h (by omega)⟩

end
/-- The cells of a list of limbs. -/
def u32s (l : List Nat) : List Value := l.map fun x : Nat => Value.int .u32 (Int.ofNat x)

theorem u32s_length (l : List Nat) : (u32s l).length = l.length := by simp [u32s]
theorem u32s_get (l : List Nat) (j : Nat) (hj : j < l.length) : (u32s l)[j]? = some (.int .u32 ((lim l j : Nat) : Int)) := by
  simp [u32s, lim_eq, hj]
theorem u32s_some {l : List Nat} {j : Nat} {u : Value} (h : (u32s l)[j]? = some u) : j < l.length ∧ u = .int .u32 ((lim l j : Nat) : Int) := by
  have hj : j < l.length := by
    have := (List.getElem?_eq_some_iff.1 h).1
    rwa [u32s_length] at this
  rw [u32s_get l j hj] at h
  exact ⟨hj, by injection h with h; exact h.symm⟩
theorem u32s_one (l : List Nat) : ∀ u ∈ u32s l, u.oneCell' = true := by
  intro u hu
  obtain ⟨_, _, rfl⟩ := List.mem_map.1 hu
  rfl
theorem u32s_append (l m : List Nat) : u32s (l ++ m) = u32s l ++ u32s m := by simp [u32s]
theorem u32s_set (l : List Nat) (i x : Nat) : (u32s l).set i (.int .u32 (x : Int)) = u32s (l.set i x) := by simp [u32s]
theorem u32s_zeros (n : Nat) : u32s (List.replicate n 0) = List.replicate n (.int .u32 0) := by simp [u32s]

/-- The call's own row of limbs: '.slice A n c' owns the limbs l in blocks from 'base' on. -/
structure Own (w : World) (base : Nat) (e : TypeId) (A : Option Addr) (n c : Nat) (l : List Nat) : Prop where
  row : w.ownsRow base e 1 (.slice A n c) n (u32s l)
  lims : Lims l

section
variable {w w' : World} {A : Option Addr} {n c base : Nat} {e : TypeId} {l : List Nat}

theorem Own.len (h : Own w base e A n c l) : l.length = n := by
  have := h.row.1
  rw [u32s_length] at this
  omega

theorem Own.form (h : Own w base e A n c l) : (A = none ∧ n = 0 ∧ c = 0) ∨ ∃ g, A = some ⟨g, 0, none⟩ ∧ base ≤ g ∧ g < w.heap.size ∧ n ≤ c ∧ c ≤ maxLen := by
  rcases h.row.2 with ⟨h1, h2⟩ | ⟨g, cap, cur, h1, hb, hg, hnc, hcm, _, _⟩
  · simp only [Value.slice.injEq] at h1
    exact .inl ⟨h1.1, h2, h1.2.2⟩
  · simp only [Value.slice.injEq, true_and] at h1
    obtain ⟨rfl, rfl⟩ := h1
    exact .inr ⟨g, rfl, hb, (Array.getElem?_eq_some_iff.1 hg).1, hnc, hcm⟩

/-- Where the row is not empty, its block. -/
theorem Own.block (h : Own w base e A n c l) (hn : 0 < n) : ∃ g, A = some ⟨g, 0, none⟩ ∧ base ≤ g ∧ g < w.heap.size := by
  rcases h.form with ⟨_, h0, _⟩ | ⟨g, hA, hb, hg, _⟩
  · omega
  · exact ⟨g, hA, hb, hg⟩

theorem Own.cell {g : Nat} (h : Own w base e (some ⟨g, 0, none⟩) n c l) {k : Nat} (hk : k < n) : w.cell? ⟨g, k, none⟩ = some (.int .u32 ((lim l k : Nat) : Int)) := by
  rw [h.row.cellAt k (by omega), u32s_get l k (by rw [h.len]; exact hk)]

theorem Own.free {g : Nat} (h : Own w base e (some ⟨g, 0, none⟩) n c l) (k : Nat) : w.frozen? ⟨g, k, none⟩ = false := h.row.frozenAt k

theorem Own.rd (h : Own w base e A n c l) : Rd w A n c l := by
  refine ⟨h.len, ?_, ?_, h.lims, fun hn => ?_⟩
  · rcases h.form with ⟨_, rfl, rfl⟩ | ⟨g, _, _, _, hnc, _⟩
    · exact Nat.le_refl _
    · exact hnc
  · rcases h.form with ⟨_, rfl, rfl⟩ | ⟨g, _, _, _, _, hcm⟩
    · exact Nat.zero_le _
    · exact hcm
  · obtain ⟨g, rfl, _, hg⟩ := h.block hn
    exact ⟨g, 0, rfl, hg, fun j hj => by rw [Nat.zero_add]; exact h.cell hj⟩

theorem Own.set {g : Nat} (h : Own w base e (some ⟨g, 0, none⟩) n c l) (k : Nat) {x : Nat} (hx : x < 4294967296) : Own (w.setCell ⟨g, k, none⟩ (.int .u32 (x : Int))) base e (some ⟨g, 0, none⟩) n c (l.set k x) :=
  ⟨by rw [← u32s_set]; exact (h.row.stored k _).1, h.lims.set k hx⟩

theorem Own.keep (h : Own w base e A n c l) {B : Nat} (hb : Below B w w') (hB : w.heap.size ≤ B) : Own w' base e A n c l := by
  refine ⟨⟨h.row.1, ?_⟩, h.lims⟩
  rcases h.row.2 with h1 | ⟨g, cap, cur, h1, hbg, hg, r⟩
  · exact .inl h1
  · exact .inr ⟨g, cap, cur, h1, hbg, by rw [hb.block g (Nat.lt_of_lt_of_le (Array.getElem?_eq_some_iff.1 hg).1 hB)]; exact hg, r⟩

theorem Own.below (h : Own w base e A n c l) (hb : Below w.heap.size w w') : Own w' base e A n c l := h.keep hb (Nat.le_refl _)

theorem Own.mono (h : Own w base e A n c l) {b' : Nat} (hb : b' ≤ base) : Own w b' e A n c l := by
  refine ⟨⟨h.row.1, ?_⟩, h.lims⟩
  rcases h.row.2 with h1 | ⟨g, cap, cur, h1, hbg, r⟩
  · exact .inl h1
  · exact .inr ⟨g, cap, cur, h1, Nat.le_trans hb hbg, r⟩

theorem Own.nil (w : World) (base : Nat) (e : TypeId) : Own w base e none 0 0 [] := ⟨World.ownsRow_nil w base e 1, Lims.nil⟩

/-- A row that a make lays: n zero limbs. -/
theorem Own.made (w : World) {base : Nat} (e : TypeId) (n : Nat) (hb : base ≤ w.heap.size) (hn : n ≤ maxLen) :
    Own (w.alloc (.cells (List.replicate n (Value.int .u32 0)).toArray e)) base e (some ⟨w.heap.size, 0, none⟩) n n (List.replicate n 0) := by
  refine ⟨?_, Lims.replicate n⟩
  rw [u32s_zeros]
  have := World.ownsRow_lit (w := w) (base := base) (e := e) (size := 1) (List.replicate n (Value.int .u32 0)).toArray n hb hn (by simp)
  simpa using this

/-- An empty row that is written out. -/
theorem Own.lit0 (w : World) {base : Nat} (e : TypeId) (hb : base ≤ w.heap.size) : Own (w.alloc (.cells #[] e)) base e (some ⟨w.heap.size, 0, none⟩) 0 0 [] := by
  refine ⟨?_, Lims.nil⟩
  have := World.ownsRow_lit (w := w) (base := base) (e := e) (size := 1) #[] 0 hb (Nat.zero_le _) rfl
  simpa [u32s] using this

/-- A short row that is written out. -/
theorem Own.lit (w : World) {base : Nat} (e : TypeId) (l : List Nat) (n : Nat) (hl : l.length = n) (hb : base ≤ w.heap.size) (hn : n ≤ maxLen) (hx : Lims l) :
    Own (w.alloc (.cells (u32s l).toArray e)) base e (some ⟨w.heap.size, 0, none⟩) n n l := by
  refine ⟨?_, hx⟩
  have := World.ownsRow_lit (w := w) (base := base) (e := e) (size := 1) (u32s l).toArray n hb hn (by simp [u32s_length, hl])
  simpa using this
end

/-- A call that returns a slice of its own with the number N. -/
def RetOwn (e : TypeId) (N : Nat) (w : World) (x : Ending) (w' : World) : Prop :=
  ∃ A n c, x = .returned (.slice A n c) ∧ Own w' w.heap.size e A n c (limbs N) ∧ Below w.heap.size w w'
/-- A call that returns a slice with the number N. -/
def RetNat (N : Nat) (w : World) (x : Ending) (w' : World) : Prop :=
  ∃ A n c, x = .returned (.slice A n c) ∧ Rd w' A n c (limbs N) ∧ Below w.heap.size w w'
theorem RetOwn.nat {e : TypeId} {N : Nat} {w : World} {x : Ending} {w' : World} (h : RetOwn e N w x w') : RetNat N w x w' := by
  obtain ⟨A, n, c, hx, ho, hb⟩ := h
  exact ⟨A, n, c, hx, ho.rd, hb⟩

/-! ### append of a slice of limbs onto a row of the call's own -/
section
variable {P : Program} (w : World)

theorem run_append_none_src (t ty e : TypeId) (i : TypeInfo) (ht : P.underlying t = some (.slice e)) (hi : P.info? e = some i)
    {base : Nat} {v : Value} {n : Nat} {xs : List Value} (hown : w.ownsRow base e 1 v n xs) (c : Nat) : (Builtin.append_ #[t, t] ty #[v, .slice none 0 c]).run P w = .ok v w := by
  rcases hown.2 with ⟨rfl, rfl⟩ | ⟨g, cap, cur, rfl, _, _, hnc, _⟩
  · simp [Builtin.append_, run_underlying ht, sizeOf, typeInfo, hi, Builtin.lenOf, Builtin.firstCells]
  · simp [Builtin.append_, run_underlying ht, sizeOf, typeInfo, hi, Builtin.lenOf, Builtin.firstCells, hnc, storeCells]

theorem wpList_append_rd {ops : Array Oper} {rest : List Oper} {o : Oper} {a : Act} {Q : Exit → Act → World → Prop} (hgd : o.guard = none) (s x : Operand) (t e : TypeId)
    (ho : o.op = .call { callee := .builtin .append, args := #[s, x], argTypes := #[t, t] }) (i : TypeInfo) (ht : P.underlying t = some (.slice e)) (hi : P.info? e = some i) (hz : i.zero = some (.int .u32 0)) (hsize : i.size = 1) (hby : i.bytes = 4)
    (base : Nat) (A0 : Option Addr) (n0 c0 : Nat) (l0 : List Nat) (hs : a.eval s = .slice A0 n0 c0) (hown : Own w base e A0 n0 c0 l0)
    (A : Option Addr) (n c : Nat) (l : List Nat) (hx : a.eval x = .slice A n c) (hr : Rd w A n c l) (hn : n0 + n ≤ 1073741824) (hbase : base ≤ w.heap.size)
    (h : ∀ A' c' w', Own w' base e A' (n0 + n) c' (l0 ++ l) → Below base w w' → wpList P ops Q rest (a.put o.dst (.slice A' (n0 + n) c')) w') : wpList P ops Q (o :: rest) a w := by
  have main : ∃ v' w', (Builtin.append_ #[t, t] o.type #[.slice A0 n0 c0, .slice A n c]).run P w = .ok v' w' ∧ w'.ownsRow base e 1 v' (n0 + n) (u32s l0 ++ u32s l) ∧ w.grownBy w' (Value.slice A0 n0 c0).ownBlock := by
    cases A with
    | none =>
      have hn0 : n = 0 := by
        rcases Nat.eq_zero_or_pos n with h0 | h0
        · exact h0
        · obtain ⟨_, _, h1, _⟩ := hr.cells h0; cases h1
      subst hn0
      have hl : l = [] := List.eq_nil_of_length_eq_zero hr.len
      subst hl
      exact ⟨_, w, run_append_none_src (P := P) w t o.type e i ht hi hown.row c, by simpa [u32s] using hown.row, World.grownBy.refl w _⟩
    | some ad =>
      have hcells : ∀ j u, (u32s l)[j]? = some u → w.cell? (ad.add j) = some u := by
        intro j u hu
        obtain ⟨hj, rfl⟩ := u32s_some hu
        rw [hr.len] at hj
        obtain ⟨b, off, hA, _, hc⟩ := hr.at hj
        injection hA with hA
        subst hA
        rw [Addr.add_lit]
        exact hc
      obtain ⟨v', w', hrun, h2, h3, _⟩ := run_append_own (P := P) w base t o.type e i (.int .u32 0) 1 4 ht hi hz hsize hby rfl (by omega) _ n0 (u32s l0) hown.row ad n c (u32s l)
        (by rw [u32s_length, hr.len]; omega) hcells (u32s_one l) (by unfold maxLen; omega) (by omega) hbase
      exact ⟨v', w', hrun, h2, h3⟩
  obtain ⟨v', w', hrun, h2, h3⟩ := main
  have hform : ∃ A' c', v' = .slice A' (n0 + n) c' := by
    rcases h2.2 with ⟨h4, h5⟩ | ⟨g, cap, cur, h4, _⟩
    · exact ⟨none, 0, by rw [h4, h5]⟩
    · exact ⟨_, _, h4⟩
  obtain ⟨A', c', rfl⟩ := hform
  have hbel : Below base w w' := (Below.refl base w).grown h3 hbase (fun k hk => (hown.row.lt k hk).1)
  refine wpList_plain hgd fun K hK => ?_
  unfold Oper.wp execOp
  simp only [ho, resolve, invoke, builtin, Sem.run_bind, Sem.run_pure, Result.andThen_ok, List.map_toArray, List.map_cons, List.map_nil, hs, hx, hrun]
  exact hK _ _ (h A' c' w' ⟨by rw [u32s_append]; exact h2, hown.lims.append hr.lims⟩ hbel)
end
end Go.Proofs.YtfggecdgnidhfaaDoor
