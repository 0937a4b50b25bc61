/- A row of rationals of a call's own, and append onto it. -/
import Derived.Test.YtlomanhmpbapeaaRatList
namespace Go.Proofs.Ytlomanhmpbapeaa
open Go.RowKit

theorem Try.infoRat : (Try.prog.info? 25).map (fun i => (i.zero, i.size, i.bytes)) = some (some (.agg #[.bool false, .slice none 0 0, .slice none 0 0]), 3, 56) := by kernel_rfl

/-- The values of a slice of rationals, in a list. -/
def ValsQ (w : World) (vs : List Value) (ts : List RatT) : Prop :=
  vs.length = ts.length * 3 ∧ ∀ j, j < ts.length → ∃ An nn cn Ad nd cd, vs[j * 3]? = some (.bool (ts.getD j (false, [], [])).1) ∧ vs[j * 3 + 1]? = some (.slice An nn cn) ∧ vs[j * 3 + 2]? = some (.slice Ad nd cd) ∧
    Rd w An nn cn (ts.getD j (false, [], [])).2.1 ∧ Rd w Ad nd cd (ts.getD j (false, [], [])).2.2
theorem ValsQ.nil (w : World) : ValsQ w [] [] := ⟨rfl, fun _ h => absurd h (by simp)⟩
theorem ValsQ.below {w w' : World} {vs : List Value} {ts : List RatT} (h : ValsQ w vs ts) (hb : Below w.heap.size w w') : ValsQ w' vs ts :=
  ⟨h.1, fun j hj => by
    obtain ⟨An, nn, cn, Ad, nd, cd, h1, h2, h3, h4, h5⟩ := h.2 j hj
    exact ⟨An, nn, cn, Ad, nd, cd, h1, h2, h3, h4.below hb, h5.below hb⟩⟩
theorem ValsQ.append {w : World} {vs us : List Value} {ts ks : List RatT} (h : ValsQ w vs ts) (h' : ValsQ w us ks) : ValsQ w (vs ++ us) (ts ++ ks) := by
  refine ⟨by simp [h.1, h'.1, Nat.add_mul], fun j hj => ?_⟩
  by_cases hlt : j < ts.length
  · obtain ⟨An, nn, cn, Ad, nd, cd, h1, h2, h3, h4, h5⟩ := h.2 j hlt
    have e : (ts ++ ks).getD j (false, [], []) = ts.getD j (false, [], []) := by simp [List.getD_eq_getElem?_getD, List.getElem?_append_left hlt]
    rw [e]
    exact ⟨An, nn, cn, Ad, nd, cd, by rw [List.getElem?_append_left (by rw [h.1]; omega)]; exact h1, by rw [List.getElem?_append_left (by rw [h.1]; omega)]; exact h2, by rw [List.getElem?_append_left (by rw [h.1]; omega)]; exact h3, h4, h5⟩
  · obtain ⟨An, nn, cn, Ad, nd, cd, h1, h2, h3, h4, h5⟩ := h'.2 (j - ts.length) (by simp at hj; omega)
    have e : (ts ++ ks).getD j (false, [], []) = ks.getD (j - ts.length) (false, [], []) := by simp [List.getD_eq_getElem?_getD, List.getElem?_append_right (Nat.le_of_not_lt hlt)]
    rw [e]
    have e3 : (j - ts.length) * 3 = j * 3 - ts.length * 3 := Nat.sub_mul _ _ _
    refine ⟨An, nn, cn, Ad, nd, cd, ?_, ?_, ?_, h4, h5⟩
    · rw [List.getElem?_append_right (by rw [h.1]; omega), h.1, ← e3]; exact h1
    · rw [List.getElem?_append_right (by rw [h.1]; omega), h.1, show j * 3 + 1 - ts.length * 3 = (j - ts.length) * 3 + 1 by omega]; exact h2
    · rw [List.getElem?_append_right (by rw [h.1]; omega), h.1, show j * 3 + 2 - ts.length * 3 = (j - ts.length) * 3 + 2 by omega]; exact h3
theorem ValsQ.one {w : World} {vs : List Value} {ts : List RatT} (h : ValsQ w vs ts) : ∀ u ∈ vs, u.oneCell' = true := by
  intro u hu
  obtain ⟨j, hj, rfl⟩ := List.getElem_of_mem hu
  have hj' := hj
  rw [h.1] at hj
  obtain ⟨An, nn, cn, Ad, nd, cd, h1, h2, h3, _, _⟩ := h.2 (j / 3) (by omega)
  have key : ∀ v : Value, vs[j]? = some v → vs[j] = v := fun v hv => by
    rw [List.getElem?_eq_getElem hj'] at hv
    injection hv
  rcases (show j = j / 3 * 3 ∨ j = j / 3 * 3 + 1 ∨ j = j / 3 * 3 + 2 by omega) with e | e | e
  · rw [← e] at h1; rw [key _ h1]; rfl
  · rw [← e] at h2; rw [key _ h2]; rfl
  · rw [← e] at h3; rw [key _ h3]; rfl
/-- A slice of rationals: its values. -/
theorem RawL.vals {w : World} {b off : Nat} {n c : Nat} {ts : List RatT} (h : RawL w (some ⟨b, off, none⟩) n c ts) : ∃ vs, ValsQ w vs ts ∧ ∀ j u, vs[j]? = some u → w.cell? ⟨b, off + j, none⟩ = some u := by
  have hc : ∀ j, j < n → ∃ An nn cn Ad nd cd, w.cell? ⟨b, off + j * 3, none⟩ = some (.bool (ts.getD j (false, [], [])).1) ∧ w.cell? ⟨b, off + j * 3 + 1, none⟩ = some (.slice An nn cn) ∧ w.cell? ⟨b, off + j * 3 + 2, none⟩ = some (.slice Ad nd cd) ∧
      Rd w An nn cn (ts.getD j (false, [], [])).2.1 ∧ Rd w Ad nd cd (ts.getD j (false, [], [])).2.2 := by
    intro j hj
    obtain ⟨b', off', e, _, hc⟩ := h.cells (by omega)
    injection e with e
    injection e with e1 e2
    subst e1 e2
    exact hc j hj
  refine ⟨(List.range (n * 3)).map (fun j => (w.cell? ⟨b, off + j, none⟩).getD undef), ⟨by simp [h.len], fun j hj => ?_⟩, fun j u hu => ?_⟩
  · rw [h.len] at hj
    obtain ⟨An, nn, cn, Ad, nd, cd, h1, h2, h3, h4, h5⟩ := hc j hj
    rw [Nat.add_assoc] at h2 h3
    exact ⟨An, nn, cn, Ad, nd, cd, by simp [show j * 3 < n * 3 by omega, h1], by simp [show j * 3 + 1 < n * 3 by omega, h2], by simp [show j * 3 + 2 < n * 3 by omega, h3], h4, h5⟩
  · have hj : j < n * 3 := by
      have := (List.getElem?_eq_some_iff.mp hu).1
      simpa using this
    obtain ⟨An, nn, cn, Ad, nd, cd, h1, h2, h3, h4, h5⟩ := hc (j / 3) (by omega)
    have key : ∀ v, w.cell? ⟨b, off + j, none⟩ = some v → w.cell? ⟨b, off + j, none⟩ = some u := fun v hv => by
      simp [hj, hv] at hu
      rw [hv, hu]
    rcases (show j = j / 3 * 3 ∨ j = j / 3 * 3 + 1 ∨ j = j / 3 * 3 + 2 by omega) with e | e | e
    · exact key (.bool (ts.getD (j / 3) (false, [], [])).1) (by rw [e]; simpa using h1)
    · exact key (.slice An nn cn) (by rw [show off + j = off + j / 3 * 3 + 1 by omega]; exact h2)
    · exact key (.slice Ad nd cd) (by rw [show off + j = off + j / 3 * 3 + 2 by omega]; exact h3)

/-- The call's own row of rationals: the numbers lie where they lay in the world w0. -/
structure OwnQ (w0 w : World) (A : Option Addr) (n c : Nat) (vs : List Value) (ts : List RatT) : Prop where
  row : w.ownsRow w0.heap.size 25 3 (.slice A n c) n vs
  vals : ValsQ w0 vs ts
  bel : Below w0.heap.size w0 w
section
variable {w0 w : World} {A : Option Addr} {n c : Nat} {vs : List Value} {ts : List RatT}
theorem OwnQ.len (h : OwnQ w0 w A n c vs ts) : ts.length = n := by
  have := h.row.1
  have := h.vals.1
  omega
theorem OwnQ.rawl (h : OwnQ w0 w A n c vs ts) : RawL w A n c ts := by
  have hlen := h.len
  have hrow := h.row
  have hvals := h.vals.below h.bel
  rcases hrow.2 with ⟨h1, h2⟩ | ⟨g, cap, cur, h1, hb, hg, hnc, hcm, hsz, htk⟩
  · injection h1 with e1 e2 e3
    subst e1 e2 e3
    exact ⟨hlen, Nat.le_refl _, by decide, fun h0 => absurd h0 (by omega)⟩
  · injection h1 with e1 e2 e3
    subst e1 e3
    refine ⟨hlen, hnc, hcm, fun h0 => ⟨g, 0, rfl, (Array.getElem?_eq_some_iff.mp hg).1, fun j hj => ?_⟩⟩
    obtain ⟨An, nn, cn, Ad, nd, cd, h3, h4, h5, h6, h7⟩ := hvals.2 j (by omega)
    refine ⟨An, nn, cn, Ad, nd, cd, ?_, ?_, ?_, h6, h7⟩
    · rw [Nat.zero_add, hrow.cellAt (j * 3) (by omega), h3]
    · rw [Nat.zero_add, hrow.cellAt (j * 3 + 1) (by omega), h4]
    · rw [Nat.zero_add, hrow.cellAt (j * 3 + 2) (by omega), h5]
theorem OwnQ.lit0 (w0 : World) : OwnQ w0 (w0.alloc (.cells #[] 25)) (some ⟨w0.heap.size, 0, none⟩) 0 0 [] [] :=
  ⟨⟨rfl, .inr ⟨w0.heap.size, 0, #[], rfl, Nat.le_refl _, heap_alloc_new w0 _, Nat.le_refl _, by decide, rfl, rfl⟩⟩, ValsQ.nil _, below_alloc w0 _⟩
end

theorem run_append_none_src' {P : Program} (w : World) (t ty e : TypeId) (i : TypeInfo) (ht : P.underlying t = some (.slice e)) (hi : P.info? e = some i)
    {base size : Nat} {v : Value} {n : Nat} {xs : List Value} (hown : w.ownsRow base e size v n xs) (c : Nat) : (Builtin.append_ #[t, t] ty #[v, .slice none 0 c]).run P w = .ok v w := by
  rcases hown.2 with ⟨rfl, rfl⟩ | ⟨g, cap, cur, rfl, _, _, hnc, _⟩
  · simp [Builtin.append_, run_underlying ht, sizeOf, typeInfo, hi, Builtin.lenOf, Builtin.firstCells]
  · simp [Builtin.append_, run_underlying ht, sizeOf, typeInfo, hi, Builtin.lenOf, Builtin.firstCells, hnc, storeCells]

theorem wpList_append_rats {P : Program} {w0 w : World} {ops : Array Oper} {rest : List Oper} {o : Oper} {a : Act} {Q : Exit → Act → World → Prop} (hgd : o.guard = none) (s x : Operand) (t : TypeId)
    (ho : o.op = .call { callee := .builtin .append, args := #[s, x], argTypes := #[t, t] }) (i : TypeInfo) (ht : P.underlying t = some (.slice 25)) (hi : P.info? 25 = some i) (hz : i.zero = some (.agg #[.bool false, .slice none 0 0, .slice none 0 0])) (hsize : i.size = 3) (hby : i.bytes = 56)
    (A0 : Option Addr) (n0 c0 : Nat) (vs : List Value) (l0 : List RatT) (hs : a.eval s = .slice A0 n0 c0) (hown : OwnQ w0 w A0 n0 c0 vs l0)
    (A : Option Addr) (n c : Nat) (l : List RatT) (hx : a.eval x = .slice A n c) (hr0 : RawL w0 A n c l) (m : Nat) (hm : n0 + n = m) (hn : m ≤ 1000000)
    (h : ∀ A' c' w' us, OwnQ w0 w' A' m c' us (l0 ++ l) → wpList P ops Q rest (a.put o.dst (.slice A' m c')) w') : wpList P ops Q (o :: rest) a w := by
  subst hm
  have hr := hr0.below hown.bel
  have hbase := hown.bel.size
  have main : ∃ v' w' us, (Builtin.append_ #[t, t] o.type #[.slice A0 n0 c0, .slice A n c]).run P w = .ok v' w' ∧ w'.ownsRow w0.heap.size 25 3 v' (n0 + n) (vs ++ us) ∧ w.grownBy w' (Value.slice A0 n0 c0).ownBlock ∧ ValsQ w0 us l := by
    rcases Nat.eq_zero_or_pos n with hn0 | hn0
    · subst hn0
      have hl : l = [] := List.eq_nil_of_length_eq_zero hr.len
      subst hl
      cases A with
      | none => exact ⟨_, w, [], run_append_none_src' (P := P) w t o.type 25 i ht hi hown.row c, by simpa using hown.row, World.grownBy.refl w _, ValsQ.nil _⟩
      | some ad =>
        obtain ⟨v', w', hrun, h2, h3, _⟩ := run_append_own (P := P) w w0.heap.size t o.type 25 i (.agg #[.bool false, .slice none 0 0, .slice none 0 0]) 3 56 ht hi hz hsize hby rfl (by omega) _ n0 vs hown.row ad 0 c []
          rfl (by simp) (by simp) (by unfold maxLen; omega) (by omega) hbase
        exact ⟨v', w', [], hrun, h2, h3, ValsQ.nil _⟩
    · obtain ⟨b, off, e, hlt, _⟩ := hr0.cells hn0
      subst e
      obtain ⟨us, hu1, hu2⟩ := hr0.vals
      obtain ⟨v', w', hrun, h2, h3, _⟩ := run_append_own (P := P) w w0.heap.size t o.type 25 i (.agg #[.bool false, .slice none 0 0, .slice none 0 0]) 3 56 ht hi hz hsize hby rfl (by omega) _ n0 vs hown.row ⟨b, off, none⟩ n c us
        (by rw [hu1.1, hr0.len]) (fun j u hj => by rw [Addr.add_lit]; rw [hown.bel.cell (p := ⟨b, off + j, none⟩) hlt]; exact hu2 j u hj) hu1.one (by unfold maxLen; omega) (by omega) hbase
      exact ⟨v', w', us, hrun, h2, h3, hu1⟩
  obtain ⟨v', w', us, hrun, h2, h3, h4⟩ := main
  have hform : ∃ A' c', v' = .slice A' (n0 + n) c' := by
    rcases h2.2 with ⟨h5, h6⟩ | ⟨g, cap, cur, h5, _⟩
    · exact ⟨none, 0, by rw [h5, h6]⟩
    · exact ⟨_, _, h5⟩
  obtain ⟨A', c', rfl⟩ := hform
  have hbel : Below w0.heap.size w0 w' := hown.bel.grown h3 hbase (fun k hk => (hown.row.lt k hk).1)
  refine wpList_plain hgd fun K hK => ?_
  unfold Oper.wp execOp
  simp only [ho, resolve, invoke, builtin, Sem.run_bind, Sem.run_pure, Result.andThen_ok, List.map_toArray, List.map_cons, List.map_nil, hs, hx, hrun]
  exact hK _ _ (h A' c' w' (vs ++ us) ⟨h2, hown.vals.append h4, hbel⟩)
end Go.Proofs.Ytlomanhmpbapeaa
