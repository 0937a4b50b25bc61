/- A layered graph that came in, opened. A layered graph with numbers that came in, opened. -/
import Derived.Test.YtjadgomakoaibaaOpen
import Derived.Test.YtjadgomakoaibaaShape
import Derived.Lib.SmallJoins
import Derived.Deep.Strs
import Derived.Test.YtjadgomakoaibaaGrid
namespace Go.Proofs.Ytjadgomakoaibaa
open Go.ChangeShapes Go.WideShapes Go.ChangeAt Go.RowKit Go.Deep Go.Joins

section
variable {H : Type} {enc : TypeId × Value → H} {W : World} {base : Nat} {v : Value} {d : DataW H} {p : List MemPlace}

theorem bytesEdge : Try.prog.bytesOf 73 = 24 := by kernel_rfl

/-- A slice of ints that came in. -/
theorem rdi_of_trod {spare : Nat → Bool} {held : Bool} {fuel : Nat} {u : Value} {x : DataW H × List MemPlace}
    (hf : DataW.trod enc Try.prog W base spare held fuel 22 [u] = some x) : ∃ A n c zs, u = .slice A n c ∧ RdI W A n c zs := by
  rcases open_ints Try.underlying22 Try.underlying3 (by kernel_rfl) hf with ⟨hcs, _⟩ | ⟨a, n, c, zs, hcs, _, hl, hm, hz, _, hcell, hwz⟩
  · exact ⟨none, 0, 0, [], by simpa using hcs, rfl, Nat.le_refl _, Nat.zero_le _, (fun _ h => by simp at h), fun h => absurd h (by omega)⟩
  · have hlen : n ≤ zs.length := by rw [hz]; split <;> omega
    refine ⟨some a, n, c, zs.take n, by simpa using hcs, by simp; omega, hl, hm, fun z hz => ?_, fun hn => ?_⟩
    · exact int_of_i64 (hwz z (List.mem_of_mem_take hz))
    · have h0 := hcell 0 (by omega)
      obtain ⟨b, off, spot⟩ := a
      have hspot : spot = none := by simpa [Addr.add] using World.cell?_spot h0
      subst hspot
      refine ⟨b, off, rfl, ?_, fun j hj => ?_⟩
      · simpa [Addr.add] using block_lt_of_cell h0
      · have := hcell j (by omega)
        rw [Addr.add_lit] at this
        rw [this]
        simp [List.getD_eq_getElem?_getD, hj]

/-- A slice of edges that came in. -/
theorem rde_of_trod {spare : Nat → Bool} {held : Bool} {fuel : Nat} {u : Value} {x : DataW H × List MemPlace} (hsp : ∀ b, spare b = true)
    (hf : DataW.trod enc Try.prog W base spare held fuel 64 [u] = some x) (hs : Sized 64 x.1) : ∃ A n c es, u = .slice A n c ∧ RdE W A n c es ∧ n ≤ 35184372088832 := by
  rcases open_slice Try.underlying64 hf with ⟨hcs, _⟩ | ⟨a, n, c, m, k, D, Pl, hcs, _, hl, hm, hmm, hx, hi⟩
  · exact ⟨none, 0, 0, [], by simpa using hcs, ⟨rfl, Nat.le_refl _, Nat.zero_le _, fun h => absurd h (by omega)⟩, by omega⟩
  · rw [hsp, if_pos rfl] at hmm
    subst hmm
    have hlen : n ≤ 35184372088832 := by
      rw [hx] at hs
      have := sized_slice_len hs Try.underlying64
      rw [bytesEdge] at this
      simp only [List.length_map, List.length_range, reachBytes] at this
      omega
    have hC : Try.prog.cellsOf 73 = 3 := by kernel_rfl
    have key : ∀ j, j < n → ∃ e : EdgeT, W.cell? (a.add (j * 3)) = some (.int .i64 e.1) ∧ W.cell? (a.add (j * 3 + 1)) = some (.int .i64 e.2.1) ∧ W.cell? (a.add (j * 3 + 2)) = some (.int .i64 e.2.2) := by
      intro j hj
      obtain ⟨cs', hc, ht⟩ := hi j (by omega)
      rw [hC] at hc
      obtain ⟨_, hcl, hat⟩ := World.cells?_some hc
      obtain ⟨y0, y1, y2, n', _, _, h0, h1, h2⟩ := trod_struct3 Try.underlying73 ht
      match cs', hcl with
      | [c0, c1, c2], _ =>
        have k0 : Try.prog.cellsOf 3 = 1 := by kernel_rfl
        simp only [k0] at h0 h1 h2
        obtain ⟨z0, e0, _, _⟩ := DataW.trod_int Try.underlying3 h0
        obtain ⟨z1, e1, _, _⟩ := DataW.trod_int Try.underlying3 h1
        obtain ⟨z2, e2, _, _⟩ := DataW.trod_int Try.underlying3 h2
        simp at e0 e1 e2
        have g0 := hat 0 (by omega)
        have g1 := hat 1 (by omega)
        have g2 := hat 2 (by omega)
        rw [add_add] at g0 g1 g2
        exact ⟨(z0, z1, z2), by simpa [e0] using g0, by simpa [e1] using g1, by simpa [e2] using g2⟩
    obtain ⟨E, hE⟩ := Go.Deep.choose_lt key
    refine ⟨some a, n, _, (List.range n).map E, by simpa using hcs, ⟨by simp, hl, hm, fun hn => ?_⟩, hlen⟩
    have h0 := (hE 0 hn).1
    obtain ⟨b, off, spot⟩ := a
    have hspot : spot = none := by simpa [Addr.add] using World.cell?_spot h0
    subst hspot
    refine ⟨b, off, rfl, by simpa [Addr.add] using block_lt_of_cell h0, fun j hj => ?_⟩
    have e9 : ((List.range n).map E).getD j (0, 0, 0) = E j := by simp [List.getD_eq_getElem?_getD, hj]
    rw [e9]
    obtain ⟨h1, h2, h3⟩ := hE j hj
    rw [Addr.add_lit] at h1 h2 h3
    exact ⟨h1, h2, h3⟩

/-- A slice of lists of edges that came in. -/
theorem rdee_of_trod {held : Bool} {fuel : Nat} {u : Value} {x : DataW H × List MemPlace}
    (hf : DataW.trod enc Try.prog W base (fun _ => true) held fuel 23 [u] = some x) (hs : Sized 23 x.1) : ∃ A n c ee, u = .slice A n c ∧ RdEE W A n c ee := by
  rcases open_slice1 Try.underlying23 (by kernel_rfl) hf with ⟨hcs, _⟩ | ⟨a, n, c, m, k, V, D, Pl, hcs, _, hl, hm, hmm, hx, hV⟩
  · exact ⟨none, 0, 0, [], by simpa using hcs, rfl, Nat.le_refl _, Nat.zero_le _, (fun _ h => by simp at h), fun h => absurd h (by omega)⟩
  · simp only [if_true] at hmm
    subst hmm
    rw [hx] at hs
    have key : ∀ j, j < n → ∃ y : List EdgeT, ∃ A k e, V j = .slice A k e ∧ RdE W A k e y ∧ k ≤ 35184372088832 := by
      intro j hj
      obtain ⟨A, k, e, es, h1, h2, h3⟩ := rde_of_trod (fun _ => rfl) (hV j (by omega)).2 (sized_elem hs Try.underlying23 (List.mem_map.2 ⟨j, List.mem_range.2 hj, rfl⟩))
      exact ⟨es, A, k, e, h1, h2, h3⟩
    obtain ⟨Y, hY⟩ := Go.Deep.choose_lt key
    refine ⟨some a, n, _, (List.range n).map Y, by simpa using hcs, ⟨by simp, hl, hm, fun l hl => ?_, fun hn => ?_⟩⟩
    · obtain ⟨j, hj, rfl⟩ := List.mem_map.1 hl
      obtain ⟨_, _, _, _, h2, h3⟩ := hY j (List.mem_range.1 hj)
      rw [h2.len]; exact h3
    · have h0 := (hV 0 (by omega)).1
      obtain ⟨b, off, spot⟩ := a
      have hspot : spot = none := by simpa [Addr.add] using World.cell?_spot h0
      subst hspot
      refine ⟨b, off, rfl, by simpa [Addr.add] using block_lt_of_cell h0, fun j hj => ?_⟩
      obtain ⟨A, k, e, h1, h2, _⟩ := hY j hj
      have h3 := (hV j (by omega)).1
      rw [Addr.add_lit, h1] at h3
      refine ⟨A, k, e, h3, ?_⟩
      have e9 : ((List.range n).map Y).getD j [] = Y j := by simp [List.getD_eq_getElem?_getD, hj]
      rw [e9]; exact h2

theorem open_trellis_sized (hv : Value.okWide Try.prog W .any base 25 v) (h : DataW.Trod enc Try.prog W 0 (fun _ => true) true 25 v d p) (hs : Sized 25 d) :
    ∃ AW nW cW Ws AE nE cE ee, v = .agg #[.slice AW nW cW, .slice AE nE cE] ∧ RdI W AW nW cW Ws ∧ RdEE W AE nE cE ee := by
  obtain ⟨v0, v1, y0, y1, n, rfl, rfl, rfl, h0, h1⟩ := open_agg2 Try.underlying25 (by kernel_rfl) (by kernel_rfl) hv h
  obtain ⟨AW, nW, cW, Ws, rfl, hW⟩ := rdi_of_trod h0
  obtain ⟨AE, nE, cE, ee, rfl, hE⟩ := rdee_of_trod h1 (sized_field (j := 1) hs Try.underlying25 rfl rfl)
  exact ⟨AW, nW, cW, Ws, AE, nE, cE, ee, rfl, hW, hE⟩
end

theorem RdI.rdv {w : World} {A : Option Addr} {n c : Nat} {zs : List Int} (h : RdI w A n c zs) : RdV intC 0 w 1 A n c zs :=
  ⟨by rw [h.len, Nat.mul_one], h.cap, h.max, fun hn => by
    obtain ⟨b, off, e, hb, hc⟩ := h.cells (by omega)
    exact ⟨b, off, e, hb, fun k hk => ⟨_, hc k (by omega), rfl, h.bd k⟩⟩⟩

section
variable {H : Type} {enc : TypeId × Value → H} {W : World} {base : Nat} {v : Value} {d : DataW H} {p : List MemPlace}

theorem bytesIntRow : Try.prog.bytesOf 22 = 24 := by kernel_rfl
/-- A slice of lists of ints that came in. -/
theorem rdii_of_trod {held : Bool} {fuel : Nat} {u : Value} {x : DataW H × List MemPlace}
    (hf : DataW.trod enc Try.prog W base (fun _ => true) held fuel 26 [u] = some x) (hs : Sized 26 x.1) : ∃ A n c V, u = .slice A n c ∧ RdR intC 0 W 1 A n c V ∧ n ≤ 35184372088832 := by
  rcases open_slice1 Try.underlying26 (by kernel_rfl) hf with ⟨hcs, _⟩ | ⟨a, n, c, m, k, V, D, Pl, hcs, _, hl, hm, hmm, hx, hV⟩
  · exact ⟨none, 0, 0, [], by simpa using hcs, ⟨rfl, Nat.le_refl _, Nat.zero_le _, fun h => absurd h (by omega)⟩, by omega⟩
  · simp only [if_true] at hmm
    subst hmm
    have hlen : n ≤ 35184372088832 := by
      rw [hx] at hs
      have := sized_slice_len hs Try.underlying26
      rw [bytesIntRow] at this
      simp only [List.length_map, List.length_range, reachBytes] at this
      omega
    have key : ∀ j, j < n → ∃ y : List Int, ∃ A k e, V j = .slice A k e ∧ RdI W A k e y := by
      intro j hj
      obtain ⟨A, k, e, zs, h1, h2⟩ := rdi_of_trod (hV j (by omega)).2
      exact ⟨zs, A, k, e, h1, h2⟩
    obtain ⟨Y, hY⟩ := Go.Deep.choose_lt key
    refine ⟨some a, n, _, (List.range n).map Y, by simpa using hcs, ⟨by simp, hl, hm, fun hn => ?_⟩, hlen⟩
    have h0 := (hV 0 (by omega)).1
    obtain ⟨b, off, spot⟩ := a
    have hspot : spot = none := by simpa [Addr.add] using World.cell?_spot h0
    subst hspot
    refine ⟨b, off, rfl, by simpa [Addr.add] using block_lt_of_cell h0, fun j hj => ?_⟩
    obtain ⟨A, k, e, h1, h2⟩ := hY j hj
    have h3 := (hV j (by omega)).1
    rw [Addr.add_lit, h1] at h3
    refine ⟨A, k, e, h3, ?_⟩
    have e9 : ((List.range n).map Y).getD j [] = Y j := by simp [List.getD_eq_getElem?_getD, hj]
    rw [e9]; exact h2.rdv

theorem open_graph_sized (hv : Value.okWide Try.prog W .any base 28 v) (h : DataW.Trod enc Try.prog W 0 (fun _ => true) true 28 v d p) (hs : Sized 28 d) :
    ∃ AW nW cW Ws AE nE cE ee A n c V, v = .agg #[.slice AW nW cW, .slice AE nE cE, .slice A n c] ∧ RdI W AW nW cW Ws ∧ RdEE W AE nE cE ee ∧ RdR intC 0 W 1 A n c V ∧ n ≤ 35184372088832 := by
  obtain ⟨cs, rfl, hsz⟩ := okWide_struct Try.underlying28 hv
  have hC : Try.prog.cellsOf 28 = 3 := by kernel_rfl
  obtain ⟨c0, c1, c2, rfl⟩ : ∃ c0 c1 c2, cs = #[c0, c1, c2] := by
    have h9 := hsz.trans hC
    obtain ⟨l⟩ := cs
    match l, h9 with
    | [c0, c1, c2], _ => exact ⟨c0, c1, c2, rfl⟩
  obtain ⟨fuel, hf⟩ := h
  obtain ⟨y0, y1, k, hx, _, h0, h1⟩ := trod_struct2 Try.underlying28 hf
  have k0 : Try.prog.cellsOf 25 = 2 := by kernel_rfl
  have k1 : Try.prog.cellsOf 26 = 1 := by kernel_rfl
  have g0 : DataW.trod enc Try.prog W 0 (fun _ => true) true k 25 [c0, c1] = some y0 := by simpa [Value.cells, k0] using h0
  have g1 : DataW.trod enc Try.prog W 0 (fun _ => true) true k 26 [c2] = some y1 := by simpa [Value.cells, k1] using h1
  obtain ⟨z0, z1, k', hx', _, e0, e1⟩ := trod_struct2 Try.underlying25 g0
  have k2 : Try.prog.cellsOf 22 = 1 := by kernel_rfl
  have k3 : Try.prog.cellsOf 23 = 1 := by kernel_rfl
  have f0 : DataW.trod enc Try.prog W 0 (fun _ => true) true k' 22 [c0] = some z0 := by simpa [Value.cells, k2] using e0
  have f1 : DataW.trod enc Try.prog W 0 (fun _ => true) true k' 23 [c1] = some z1 := by simpa [Value.cells, k3] using e1
  simp only [Prod.mk.injEq] at hx
  rw [hx.1] at hs
  have s0 : Sized 25 y0.1 := sized_field (j := 0) hs Try.underlying28 rfl rfl
  have s1 : Sized 26 y1.1 := sized_field (j := 1) hs Try.underlying28 rfl rfl
  rw [hx'] at s0
  obtain ⟨AW, nW, cW, Ws, rfl, hW⟩ := rdi_of_trod f0
  obtain ⟨AE, nE, cE, ee, rfl, hE⟩ := rdee_of_trod f1 (sized_field (j := 1) s0 Try.underlying25 rfl rfl)
  obtain ⟨A, n, c, V, rfl, hV, hn⟩ := rdii_of_trod g1 s1
  exact ⟨AW, nW, cW, Ws, AE, nE, cE, ee, A, n, c, V, rfl, hW, hE, hV, hn⟩
end
end Go.Proofs.Ytjadgomakoaibaa
