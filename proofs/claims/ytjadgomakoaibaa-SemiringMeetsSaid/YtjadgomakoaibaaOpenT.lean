/- A layered graph that came in, opened. -/
import Derived.Test.YtjadgomakoaibaaSized
import Derived.Test.YtjadgomakoaibaaShape
import Derived.Lib.SmallJoins
import Derived.Deep.Strs
namespace Go.Proofs.Ytjadgomakoaibaa
open Go.ChangeShapes Go.WideShapes Go.ChangeAt Go.RowKit Go.Deep Go.Joins

section
variable {H : Type} {enc : TypeId × Value → H} {W : World} {base : Nat} {v : Value} {d : DataW H} {p : List MemPlace}

theorem bytesEdge : Try.prog.bytesOf 73 = 24 := by kernel_rfl

/-- A slice of ints that came in. -/
theorem rdi_of_trod {spare : Nat → Bool} {held : Bool} {fuel : Nat} {u : Value} {x : DataW H × List MemPlace}
    (hf : DataW.trod enc Try.prog W base spare held fuel 22 [u] = some x) : ∃ A n c zs, u = .slice A n c ∧ RdI W A n c zs := by
  rcases open_ints Try.underlying22 Try.underlying3 (by kernel_rfl) hf with ⟨hcs, _⟩ | ⟨a, n, c, zs, hcs, _, hl, hm, hz, _, hcell, hwz⟩
  · exact ⟨none, 0, 0, [], by simpa using hcs, rfl, Nat.le_refl _, Nat.zero_le _, (fun _ h => by simp at h), fun h => absurd h (by omega)⟩
  · have hlen : n ≤ zs.length := by rw [hz]; split <;> omega
    refine ⟨some a, n, c, zs.take n, by simpa using hcs, by simp; omega, hl, hm, fun z hz => ?_, fun hn => ?_⟩
    · exact int_of_i64 (hwz z (List.mem_of_mem_take hz))
    · have h0 := hcell 0 (by omega)
      obtain ⟨b, off, spot⟩ := a
      have hspot : spot = none := by simpa [Addr.add] using World.cell?_spot h0
      subst hspot
      refine ⟨b, off, rfl, ?_, fun j hj => ?_⟩
      · simpa [Addr.add] using block_lt_of_cell h0
      · have := hcell j (by omega)
        rw [Addr.add_lit] at this
        rw [this]
        simp [List.getD_eq_getElem?_getD, hj]

/-- A slice of edges that came in. -/
theorem rde_of_trod {spare : Nat → Bool} {held : Bool} {fuel : Nat} {u : Value} {x : DataW H × List MemPlace} (hsp : ∀ b, spare b = true)
    (hf : DataW.trod enc Try.prog W base spare held fuel 64 [u] = some x) (hs : Sized 64 x.1) : ∃ A n c es, u = .slice A n c ∧ RdE W A n c es ∧ n ≤ 35184372088832 := by
  rcases open_slice Try.underlying64 hf with ⟨hcs, _⟩ | ⟨a, n, c, m, k, D, Pl, hcs, _, hl, hm, hmm, hx, hi⟩
  · exact ⟨none, 0, 0, [], by simpa using hcs, ⟨rfl, Nat.le_refl _, Nat.zero_le _, fun h => absurd h (by omega)⟩, by omega⟩
  · rw [hsp, if_pos rfl] at hmm
    subst hmm
    have hlen : n ≤ 35184372088832 := by
      rw [hx] at hs
      have := sized_slice_len hs Try.underlying64
      rw [bytesEdge] at this
      simp only [List.length_map, List.length_range, reachBytes] at this
      omega
    have hC : Try.prog.cellsOf 73 = 3 := by kernel_rfl
    have key : ∀ j, j < n → ∃ e : EdgeT, W.cell? (a.add (j * 3)) = some (.int .i64 e.1) ∧ W.cell? (a.add (j * 3 + 1)) = some (.int .i64 e.2.1) ∧ W.cell? (a.add (j * 3 + 2)) = some (.int .i64 e.2.2) := by
      intro j hj
      obtain ⟨cs', hc, ht⟩ := hi j (by omega)
      rw [hC] at hc
      obtain ⟨_, hcl, hat⟩ := World.cells?_some hc
      obtain ⟨y0, y1, y2, n', _, _, h0, h1, h2⟩ := trod_struct3 Try.underlying73 ht
      match cs', hcl with
      | [c0, c1, c2], _ =>
        have k0 : Try.prog.cellsOf 3 = 1 := by kernel_rfl
        simp only [k0] at h0 h1 h2
        obtain ⟨z0, e0, _, _⟩ := DataW.trod_int Try.underlying3 h0
        obtain ⟨z1, e1, _, _⟩ := DataW.trod_int Try.underlying3 h1
        obtain ⟨z2, e2, _, _⟩ := DataW.trod_int Try.underlying3 h2
        simp at e0 e1 e2
        have g0 := hat 0 (by omega)
        have g1 := hat 1 (by omega)
        have g2 := hat 2 (by omega)
        rw [add_add] at g0 g1 g2
        exact ⟨(z0, z1, z2), by simpa [e0] using g0, by simpa [e1] using g1, by simpa [e2] using g2⟩
    obtain ⟨E, hE⟩ := Go.Deep.choose_lt key
    refine ⟨some a, n, _, (List.range n).map E, by simpa using hcs, ⟨by simp, hl, hm, fun hn => ?_⟩, hlen⟩
    have h0 := (hE 0 hn).1
    obtain ⟨b, off, spot⟩ := a
    have hspot : spot = none := by simpa [Addr.add] using World.cell?_spot h0
    subst hspot
    refine ⟨b, off, rfl, by simpa [Addr.add] using block_lt_of_cell h0, fun j hj => ?_⟩
    have e9 : ((List.range n).map E).getD j (0, 0, 0) = E j := by simp [List.getD_eq_getElem?_getD, hj]
    rw [e9]
    obtain ⟨h1, h2, h3⟩ := hE j hj
    rw [Addr.add_lit] at h1 h2 h3
    exact ⟨h1, h2, h3⟩

/-- A slice of lists of edges that came in. -/
theorem rdee_of_trod {held : Bool} {fuel : Nat} {u : Value} {x : DataW H × List MemPlace}
    (hf : DataW.trod enc Try.prog W base (fun _ => true) held fuel 23 [u] = some x) (hs : Sized 23 x.1) : ∃ A n c ee, u = .slice A n c ∧ RdEE W A n c ee := by
  rcases open_slice1 Try.underlying23 (by kernel_rfl) hf with ⟨hcs, _⟩ | ⟨a, n, c, m, k, V, D, Pl, hcs, _, hl, hm, hmm, hx, hV⟩
  · exact ⟨none, 0, 0, [], by simpa using hcs, rfl, Nat.le_refl _, Nat.zero_le _, (fun _ h => by simp at h), fun h => absurd h (by omega)⟩
  · simp only [if_true] at hmm
    subst hmm
    rw [hx] at hs
    have key : ∀ j, j < n → ∃ y : List EdgeT, ∃ A k e, V j = .slice A k e ∧ RdE W A k e y ∧ k ≤ 35184372088832 := by
      intro j hj
      obtain ⟨A, k, e, es, h1, h2, h3⟩ := rde_of_trod (fun _ => rfl) (hV j (by omega)).2 (sized_elem hs Try.underlying23 (List.mem_map.2 ⟨j, List.mem_range.2 hj, rfl⟩))
      exact ⟨es, A, k, e, h1, h2, h3⟩
    obtain ⟨Y, hY⟩ := Go.Deep.choose_lt key
    refine ⟨some a, n, _, (List.range n).map Y, by simpa using hcs, ⟨by simp, hl, hm, fun l hl => ?_, fun hn => ?_⟩⟩
    · obtain ⟨j, hj, rfl⟩ := List.mem_map.1 hl
      obtain ⟨_, _, _, _, h2, h3⟩ := hY j (List.mem_range.1 hj)
      rw [h2.len]; exact h3
    · have h0 := (hV 0 (by omega)).1
      obtain ⟨b, off, spot⟩ := a
      have hspot : spot = none := by simpa [Addr.add] using World.cell?_spot h0
      subst hspot
      refine ⟨b, off, rfl, by simpa [Addr.add] using block_lt_of_cell h0, fun j hj => ?_⟩
      obtain ⟨A, k, e, h1, h2, _⟩ := hY j hj
      have h3 := (hV j (by omega)).1
      rw [Addr.add_lit, h1] at h3
      refine ⟨A, k, e, h3, ?_⟩
      have e9 : ((List.range n).map Y).getD j [] = Y j := by simp [List.getD_eq_getElem?_getD, hj]
      rw [e9]; exact h2

theorem open_trellis_sized (hv : Value.okWide Try.prog W .any base 25 v) (h : DataW.Trod enc Try.prog W 0 (fun _ => true) true 25 v d p) (hs : Sized 25 d) :
    ∃ AW nW cW Ws AE nE cE ee, v = .agg #[.slice AW nW cW, .slice AE nE cE] ∧ RdI W AW nW cW Ws ∧ RdEE W AE nE cE ee := by
  obtain ⟨v0, v1, y0, y1, n, rfl, rfl, rfl, h0, h1⟩ := open_agg2 Try.underlying25 (by kernel_rfl) (by kernel_rfl) hv h
  obtain ⟨AW, nW, cW, Ws, rfl, hW⟩ := rdi_of_trod h0
  obtain ⟨AE, nE, cE, ee, rfl, hE⟩ := rdee_of_trod h1 (sized_field (j := 1) hs Try.underlying25 rfl rfl)
  exact ⟨AW, nW, cW, Ws, AE, nE, cE, ee, rfl, hW, hE⟩
end
end Go.Proofs.Ytjadgomakoaibaa
