/- A list of rationals that came in, opened. -/
import Derived.Test.YtlomanhmpbapeaaOpenQ
namespace Go.Proofs.Ytlomanhmpbapeaa
open Go.ChangeShapes Go.WideShapes Go.ChangeAt Go.RowKit Go.Deep Go.Joins

section
variable {H : Type} {enc : TypeId × Value → H} {W : World} {base : Nat} {v : Value} {d : DataW H} {p : List MemPlace}

theorem bytesRat : Try.prog.bytesOf 25 = 56 := by kernel_rfl

theorem ratl_of_trod {held : Bool} {fuel : Nat} {u : Value} {x : DataW H × List MemPlace}
    (hf : DataW.trod enc Try.prog W base (fun _ => true) held fuel 44 [u] = some x) (hs : Sized 44 x.1) : ∃ A n c ts, u = .slice A n c ∧ RawL W A n c ts ∧ Reach ts ∧ n ≤ 35184372088832 := by
  rcases open_slice Try.underlying44 hf with ⟨hcs, _⟩ | ⟨a, n, c, m, k, D, Pl, hcs, _, hl, hm, hmm, hx, hi⟩
  · exact ⟨none, 0, 0, [], by simpa using hcs, RawL.nil W, fun _ h => by simp at h, by omega⟩
  · simp only [if_true] at hmm
    subst hmm
    rw [hx] at hs
    have hlen : n ≤ 35184372088832 := by
      have := sized_slice_len hs Try.underlying44
      rw [bytesRat] at this
      simp only [List.length_map, List.length_range, reachBytes] at this
      omega
    have hC : Try.prog.cellsOf 25 = 3 := by kernel_rfl
    have key : ∀ j, j < n → ∃ t : RatT, (t.2.1.length ≤ 35184372088832 ∧ t.2.2.length ≤ 35184372088832) ∧ ∃ An nn cn Ad nd cd, W.cell? (a.add (j * 3)) = some (.bool t.1) ∧ W.cell? (a.add (j * 3 + 1)) = some (.slice An nn cn) ∧ W.cell? (a.add (j * 3 + 2)) = some (.slice Ad nd cd) ∧ Rd W An nn cn t.2.1 ∧ Rd W Ad nd cd t.2.2 := by
      intro j hj
      obtain ⟨cs', hc, ht⟩ := hi j (by omega)
      rw [hC] at hc
      obtain ⟨_, hcl, hat⟩ := World.cells?_some hc
      obtain ⟨y0, y1, y2, n', hxx, _, h0, h1, h2⟩ := trod_struct3 Try.underlying25 ht
      have hse : Sized 25 (.agg [y0.1, y1.1, y2.1]) := by
        have := sized_elem hs Try.underlying44 (List.mem_map.2 ⟨j, List.mem_range.2 hj, rfl⟩)
        have e : D j = .agg [y0.1, y1.1, y2.1] := congrArg Prod.fst hxx
        rwa [e] at this
      match cs', hcl with
      | [c0, c1, c2], _ =>
        have k0 : Try.prog.cellsOf 4 = 1 := by kernel_rfl
        have k1 : Try.prog.cellsOf 23 = 1 := by kernel_rfl
        simp only [k0] at h0
        simp only [k1] at h1 h2
        obtain ⟨s, e0, _⟩ := DataW.trod_bool Try.underlying4 h0
        obtain ⟨An, nn, cn, ln, e1, r1⟩ := rdv_of_trod (u := c1) (by simpa using h1)
        obtain ⟨Ad, nd, cd, ld, e2, r2⟩ := rdv_of_trod (u := c2) (by simpa using h2)
        simp at e0
        have l1 : nn ≤ 35184372088832 := len_of_trod (by simpa [e1] using h1) (sized_field (j := 1) hse Try.underlying25 rfl rfl)
        have l2 : nd ≤ 35184372088832 := len_of_trod (by simpa [e2] using h2) (sized_field (j := 2) hse Try.underlying25 rfl rfl)
        have g0 := hat 0 (by omega)
        have g1 := hat 1 (by omega)
        have g2 := hat 2 (by omega)
        rw [add_add] at g0 g1 g2
        exact ⟨(s, ln, ld), ⟨by rw [r1.len]; exact l1, by rw [r2.len]; exact l2⟩, An, nn, cn, Ad, nd, cd, by simpa [e0] using g0, by simpa [e1] using g1, by simpa [e2] using g2, r1, r2⟩
    obtain ⟨E, hE⟩ := Go.Deep.choose_lt key
    refine ⟨some a, n, _, (List.range n).map E, by simpa using hcs, ⟨by simp, hl, hm, fun hn => ?_⟩, fun t ht => ?_, hlen⟩
    · obtain ⟨_, _, _, _, _, _, _, h0, _⟩ := hE 0 hn
      obtain ⟨b, off, spot⟩ := a
      have hspot : spot = none := by simpa [Addr.add] using World.cell?_spot h0
      subst hspot
      refine ⟨b, off, rfl, by simpa [Addr.add] using block_lt_of_cell h0, fun j hj => ?_⟩
      have e9 : ((List.range n).map E).getD j (false, [], []) = E j := by simp [List.getD_eq_getElem?_getD, hj]
      rw [e9]
      obtain ⟨_, An, nn, cn, Ad, nd, cd, h1, h2, h3, h4, h5⟩ := hE j hj
      rw [Addr.add_lit] at h1 h2 h3
      exact ⟨An, nn, cn, Ad, nd, cd, h1, h2, h3, h4, h5⟩
    · obtain ⟨j, hj, rfl⟩ := List.mem_map.1 ht
      exact (hE j (List.mem_range.1 hj)).1

theorem open_ratlist_sized (hv : Value.okWide Try.prog W .any base 44 v) (h : DataW.Trod enc Try.prog W 0 (fun _ => true) true 44 v d p) (hs : Sized 44 d) :
    ∃ A n c ts, v = .slice A n c ∧ RawL W A n c ts ∧ Reach ts ∧ n ≤ 35184372088832 := by
  obtain ⟨A, n, c, rfl⟩ := okWide_slice Try.underlying44 hv
  obtain ⟨fuel, hf⟩ := h
  obtain ⟨A', n', c', ts, e, h1, h2, h3⟩ := ratl_of_trod hf hs
  injection e with e1 e2 e3
  subst e1 e2 e3
  exact ⟨A, n, c, ts, rfl, h1, h2, h3⟩
end
end Go.Proofs.Ytlomanhmpbapeaa
