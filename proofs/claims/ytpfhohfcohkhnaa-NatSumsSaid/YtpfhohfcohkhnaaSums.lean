/- Lists of numbers that a call lays in a row of its own; the walk of the law NatSums. -/
import Derived.Test.YtpfhohfcohkhnaaTwo
namespace Go.Proofs.Ytpfhohfcohkhnaa
open Go.RowKit

theorem Try.infoNat : (Try.prog.info? 42).map (fun i => (i.zero, i.size, i.bytes)) = some (some (.slice none 0 0), 1, 24) := by kernel_rfl

/-- The values of a slice of lists of limbs, in a list. -/
def Vals (w : World) (vs : List Value) (ll : List (List Nat)) : Prop :=
  vs.length = ll.length ∧ ∀ j, j < ll.length → ∃ A n c, vs[j]? = some (.slice A n c) ∧ Rd w A n c (ll.getD j [])

theorem Vals.nil (w : World) : Vals w [] [] := ⟨rfl, fun _ h => absurd h (by simp)⟩
theorem Vals.below {w w' : World} {vs : List Value} {ll : List (List Nat)} (h : Vals w vs ll) (hb : Below w.heap.size w w') : Vals w' vs ll :=
  ⟨h.1, fun j hj => by
    obtain ⟨A, n, c, h1, h2⟩ := h.2 j hj
    exact ⟨A, n, c, h1, h2.below hb⟩⟩
theorem Vals.append {w : World} {vs us : List Value} {ll kk : List (List Nat)} (h : Vals w vs ll) (h' : Vals w us kk) : Vals w (vs ++ us) (ll ++ kk) := by
  refine ⟨by simp [h.1, h'.1], fun j hj => ?_⟩
  by_cases hlt : j < ll.length
  · obtain ⟨A, n, c, h1, h2⟩ := h.2 j hlt
    refine ⟨A, n, c, by rw [List.getElem?_append_left (by rw [h.1]; exact hlt)]; exact h1, ?_⟩
    have e : (ll ++ kk).getD j [] = ll.getD j [] := by simp [List.getD_eq_getElem?_getD, List.getElem?_append_left hlt]
    rw [e]; exact h2
  · obtain ⟨A, n, c, h1, h2⟩ := h'.2 (j - ll.length) (by simp at hj; omega)
    refine ⟨A, n, c, by rw [List.getElem?_append_right (by rw [h.1]; omega), h.1]; exact h1, ?_⟩
    have e : (ll ++ kk).getD j [] = kk.getD (j - ll.length) [] := by simp [List.getD_eq_getElem?_getD, List.getElem?_append_right (Nat.le_of_not_lt hlt)]
    rw [e]; exact h2
theorem Vals.one {w : World} {vs : List Value} {ll : List (List Nat)} (h : Vals w vs ll) : ∀ u ∈ vs, u.oneCell' = true := by
  intro u hu
  obtain ⟨j, hj, rfl⟩ := List.getElem_of_mem hu
  obtain ⟨A, n, c, h1, _⟩ := h.2 j (by rw [← h.1]; exact hj)
  rw [List.getElem?_eq_getElem hj] at h1
  injection h1 with h1
  rw [h1]; rfl

/-- A slice of lists of limbs: its values. -/
theorem RdL.vals {w : World} {b off : Nat} {n c : Nat} {ll : List (List Nat)} (h : RdL w (some ⟨b, off, none⟩) n c ll) :
    ∃ vs, Vals w vs ll ∧ ∀ j u, vs[j]? = some u → w.cell? ⟨b, off + j, none⟩ = some u := by
  refine ⟨(List.range n).map (fun j => (w.cell? ⟨b, off + j, none⟩).getD undef), ⟨by simp [h.len], fun j hj => ?_⟩, fun j u hu => ?_⟩
  · rw [h.len] at hj
    obtain ⟨b', off', A, m, d, e, _, h1, h2⟩ := h.at hj
    injection e with e
    injection e with e1 e2
    subst e1 e2
    exact ⟨A, m, d, by simp [hj, h1], h2⟩
  · have hj : j < n := by
      have := (List.getElem?_eq_some_iff.mp hu).1
      simpa using this
    obtain ⟨b', off', A, m, d, e, _, h1, h2⟩ := h.at hj
    injection e with e
    injection e with e1 e2
    subst e1 e2
    simp [hj, h1] at hu
    rw [h1, hu]

/-- The call's own row of lists of limbs: the lists lie where they lay in the world w0. -/
structure OwnL (w0 w : World) (A : Option Addr) (n c : Nat) (vs : List Value) (ll : List (List Nat)) : Prop where
  row : w.ownsRow w0.heap.size 42 1 (.slice A n c) n vs
  vals : Vals w0 vs ll
  bel : Below w0.heap.size w0 w

section
variable {w0 w : World} {A : Option Addr} {n c : Nat} {vs : List Value} {ll : List (List Nat)}
theorem OwnL.len (h : OwnL w0 w A n c vs ll) : ll.length = n := by
  have := h.row.1
  have := h.vals.1
  omega
theorem OwnL.rdl (h : OwnL w0 w A n c vs ll) : RdL w A n c ll := by
  have hlen := h.len
  have hrow := h.row
  have hvals := h.vals.below h.bel
  rcases hrow.2 with ⟨h1, h2⟩ | ⟨g, cap, cur, h1, hb, hg, hnc, hcm, hsz, htk⟩
  · injection h1 with e1 e2 e3
    subst e1 e2 e3
    exact ⟨hlen, Nat.le_refl _, by decide, fun h0 => absurd h0 (by omega)⟩
  · injection h1 with e1 e2 e3
    subst e1 e3
    refine ⟨hlen, hnc, hcm, fun h0 => ⟨g, 0, rfl, ?_, fun j hj => ?_⟩⟩
    · exact (Array.getElem?_eq_some_iff.mp hg).1
    · obtain ⟨A, m, d, h3, h4⟩ := hvals.2 j (by omega)
      refine ⟨A, m, d, ?_, h4⟩
      have := hrow.cellAt j (by omega)
      rw [Nat.zero_add, this, h3]
theorem OwnL.lit0 (w0 : World) : OwnL w0 (w0.alloc (.cells #[] 42)) (some ⟨w0.heap.size, 0, none⟩) 0 0 [] [] :=
  ⟨⟨rfl, .inr ⟨w0.heap.size, 0, #[], rfl, Nat.le_refl _, heap_alloc_new w0 _, Nat.le_refl _, by decide, rfl, rfl⟩⟩, Vals.nil _, below_alloc w0 _⟩
end

theorem wpList_append_rdl {P : Program} {w0 w : World} {ops : Array Oper} {rest : List Oper} {o : Oper} {a : Act} {Q : Exit → Act → World → Prop} (hgd : o.guard = none) (s x : Operand) (t : TypeId)
    (ho : o.op = .call { callee := .builtin .append, args := #[s, x], argTypes := #[t, t] }) (i : TypeInfo) (ht : P.underlying t = some (.slice 42)) (hi : P.info? 42 = some i) (hz : i.zero = some (.slice none 0 0)) (hsize : i.size = 1) (hby : i.bytes = 24)
    (A0 : Option Addr) (n0 c0 : Nat) (vs : List Value) (l0 : List (List Nat)) (hs : a.eval s = .slice A0 n0 c0) (hown : OwnL w0 w A0 n0 c0 vs l0)
    (A : Option Addr) (n c : Nat) (l : List (List Nat)) (hx : a.eval x = .slice A n c) (hr0 : RdL w0 A n c l) (hA : A = none → c = 0) (m : Nat) (hm : n0 + n = m) (hn : m ≤ 1000000)
    (h : ∀ A' c' w' us, OwnL w0 w' A' m c' us (l0 ++ l) → wpList P ops Q rest (a.put o.dst (.slice A' m c')) w') : wpList P ops Q (o :: rest) a w := by
  subst hm
  have hr := hr0.below hown.bel
  have hbase := hown.bel.size
  have main : ∃ v' w' us, (Builtin.append_ #[t, t] o.type #[.slice A0 n0 c0, .slice A n c]).run P w = .ok v' w' ∧ w'.ownsRow w0.heap.size 42 1 v' (n0 + n) (vs ++ us) ∧ w.grownBy w' (Value.slice A0 n0 c0).ownBlock ∧ Vals w0 us l := by
    cases A with
    | none =>
      have hn0 : n = 0 := by have := hr.cap; have := hA rfl; omega
      subst hn0
      have hl : l = [] := List.eq_nil_of_length_eq_zero hr.len
      subst hl
      exact ⟨_, w, [], run_append_none_src (P := P) w t o.type 42 i ht hi hown.row c, by simpa using hown.row, World.grownBy.refl w _, Vals.nil _⟩
    | some ad =>
      rcases Nat.eq_zero_or_pos n with hn0 | hn0
      · subst hn0
        have hl : l = [] := List.eq_nil_of_length_eq_zero hr.len
        subst hl
        obtain ⟨v', w', hrun, h2, h3, _⟩ := run_append_own (P := P) w w0.heap.size t o.type 42 i (.slice none 0 0) 1 24 ht hi hz hsize hby rfl (by omega) _ n0 vs hown.row ad 0 c []
          rfl (by simp) (by simp) (by unfold maxLen; omega) (by omega) hbase
        exact ⟨v', w', [], hrun, h2, h3, Vals.nil _⟩
      · obtain ⟨b, off, e, hlt, _⟩ := hr0.cells hn0
        injection e with e
        subst e
        obtain ⟨us, h5, h6⟩ := hr0.vals
        obtain ⟨v', w', hrun, h2, h3, _⟩ := run_append_own (P := P) w w0.heap.size t o.type 42 i (.slice none 0 0) 1 24 ht hi hz hsize hby rfl (by omega) _ n0 vs hown.row ⟨b, off, none⟩ n c us
          (by rw [h5.1, hr.len]; omega) (by intro j u hu; rw [Addr.add_lit, hown.bel.cell (p := ⟨b, off + j, none⟩) hlt]; exact h6 j u hu) h5.one (by unfold maxLen; omega) (by omega) hbase
        exact ⟨v', w', us, hrun, h2, h3, h5⟩
  obtain ⟨v', w', us, hrun, h2, h3, h5⟩ := main
  have hform : ∃ A' c', v' = .slice A' (n0 + n) c' := by
    rcases h2.2 with ⟨h4, h5⟩ | ⟨g, cap, cur, h4, _⟩
    · exact ⟨none, 0, by rw [h4, h5]⟩
    · exact ⟨_, _, h4⟩
  obtain ⟨A', c', rfl⟩ := hform
  have hbel : Below w0.heap.size w0 w' := hown.bel.grown h3 hbase (fun k hk => (hown.row.lt k hk).1)
  refine wpList_plain hgd fun K hK => ?_
  unfold Oper.wp execOp
  simp only [ho, resolve, invoke, builtin, Sem.run_bind, Sem.run_pure, Result.andThen_ok, List.map_toArray, List.map_cons, List.map_nil, hs, hx, hrun]
  exact hK _ _ (h A' c' w' _ ⟨h2, hown.vals.append h5, hbel⟩)
end Go.Proofs.Ytpfhohfcohkhnaa
