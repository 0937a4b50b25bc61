/- A layered graph with numbers that came in, opened. -/
import Derived.Test.YtjadgomakoaibaaOpenT
import Derived.Test.YtjadgomakoaibaaGrid
namespace Go.Proofs.Ytjadgomakoaibaa
open Go.ChangeShapes Go.WideShapes Go.ChangeAt Go.RowKit Go.Deep Go.Joins

theorem RdI.rdv {w : World} {A : Option Addr} {n c : Nat} {zs : List Int} (h : RdI w A n c zs) : RdV intC 0 w 1 A n c zs :=
  ⟨by rw [h.len, Nat.mul_one], h.cap, h.max, fun hn => by
    obtain ⟨b, off, e, hb, hc⟩ := h.cells (by omega)
    exact ⟨b, off, e, hb, fun k hk => ⟨_, hc k (by omega), rfl, h.bd k⟩⟩⟩

section
variable {H : Type} {enc : TypeId × Value → H} {W : World} {base : Nat} {v : Value} {d : DataW H} {p : List MemPlace}

theorem bytesIntRow : Try.prog.bytesOf 22 = 24 := by kernel_rfl
/-- A slice of lists of ints that came in. -/
theorem rdii_of_trod {held : Bool} {fuel : Nat} {u : Value} {x : DataW H × List MemPlace}
    (hf : DataW.trod enc Try.prog W base (fun _ => true) held fuel 26 [u] = some x) (hs : Sized 26 x.1) : ∃ A n c V, u = .slice A n c ∧ RdR intC 0 W 1 A n c V ∧ n ≤ 35184372088832 := by
  rcases open_slice1 Try.underlying26 (by kernel_rfl) hf with ⟨hcs, _⟩ | ⟨a, n, c, m, k, V, D, Pl, hcs, _, hl, hm, hmm, hx, hV⟩
  · exact ⟨none, 0, 0, [], by simpa using hcs, ⟨rfl, Nat.le_refl _, Nat.zero_le _, fun h => absurd h (by omega)⟩, by omega⟩
  · simp only [if_true] at hmm
    subst hmm
    have hlen : n ≤ 35184372088832 := by
      rw [hx] at hs
      have := sized_slice_len hs Try.underlying26
      rw [bytesIntRow] at this
      simp only [List.length_map, List.length_range, reachBytes] at this
      omega
    have key : ∀ j, j < n → ∃ y : List Int, ∃ A k e, V j = .slice A k e ∧ RdI W A k e y := by
      intro j hj
      obtain ⟨A, k, e, zs, h1, h2⟩ := rdi_of_trod (hV j (by omega)).2
      exact ⟨zs, A, k, e, h1, h2⟩
    obtain ⟨Y, hY⟩ := Go.Deep.choose_lt key
    refine ⟨some a, n, _, (List.range n).map Y, by simpa using hcs, ⟨by simp, hl, hm, fun hn => ?_⟩, hlen⟩
    have h0 := (hV 0 (by omega)).1
    obtain ⟨b, off, spot⟩ := a
    have hspot : spot = none := by simpa [Addr.add] using World.cell?_spot h0
    subst hspot
    refine ⟨b, off, rfl, by simpa [Addr.add] using block_lt_of_cell h0, fun j hj => ?_⟩
    obtain ⟨A, k, e, h1, h2⟩ := hY j hj
    have h3 := (hV j (by omega)).1
    rw [Addr.add_lit, h1] at h3
    refine ⟨A, k, e, h3, ?_⟩
    have e9 : ((List.range n).map Y).getD j [] = Y j := by simp [List.getD_eq_getElem?_getD, hj]
    rw [e9]; exact h2.rdv

theorem open_graph_sized (hv : Value.okWide Try.prog W .any base 28 v) (h : DataW.Trod enc Try.prog W 0 (fun _ => true) true 28 v d p) (hs : Sized 28 d) :
    ∃ AW nW cW Ws AE nE cE ee A n c V, v = .agg #[.slice AW nW cW, .slice AE nE cE, .slice A n c] ∧ RdI W AW nW cW Ws ∧ RdEE W AE nE cE ee ∧ RdR intC 0 W 1 A n c V ∧ n ≤ 35184372088832 := by
  obtain ⟨cs, rfl, hsz⟩ := okWide_struct Try.underlying28 hv
  have hC : Try.prog.cellsOf 28 = 3 := by kernel_rfl
  obtain ⟨c0, c1, c2, rfl⟩ : ∃ c0 c1 c2, cs = #[c0, c1, c2] := by
    have h9 := hsz.trans hC
    obtain ⟨l⟩ := cs
    match l, h9 with
    | [c0, c1, c2], _ => exact ⟨c0, c1, c2, rfl⟩
  obtain ⟨fuel, hf⟩ := h
  obtain ⟨y0, y1, k, hx, _, h0, h1⟩ := trod_struct2 Try.underlying28 hf
  have k0 : Try.prog.cellsOf 25 = 2 := by kernel_rfl
  have k1 : Try.prog.cellsOf 26 = 1 := by kernel_rfl
  have g0 : DataW.trod enc Try.prog W 0 (fun _ => true) true k 25 [c0, c1] = some y0 := by simpa [Value.cells, k0] using h0
  have g1 : DataW.trod enc Try.prog W 0 (fun _ => true) true k 26 [c2] = some y1 := by simpa [Value.cells, k1] using h1
  obtain ⟨z0, z1, k', hx', _, e0, e1⟩ := trod_struct2 Try.underlying25 g0
  have k2 : Try.prog.cellsOf 22 = 1 := by kernel_rfl
  have k3 : Try.prog.cellsOf 23 = 1 := by kernel_rfl
  have f0 : DataW.trod enc Try.prog W 0 (fun _ => true) true k' 22 [c0] = some z0 := by simpa [Value.cells, k2] using e0
  have f1 : DataW.trod enc Try.prog W 0 (fun _ => true) true k' 23 [c1] = some z1 := by simpa [Value.cells, k3] using e1
  simp only [Prod.mk.injEq] at hx
  rw [hx.1] at hs
  have s0 : Sized 25 y0.1 := sized_field (j := 0) hs Try.underlying28 rfl rfl
  have s1 : Sized 26 y1.1 := sized_field (j := 1) hs Try.underlying28 rfl rfl
  rw [hx'] at s0
  obtain ⟨AW, nW, cW, Ws, rfl, hW⟩ := rdi_of_trod f0
  obtain ⟨AE, nE, cE, ee, rfl, hE⟩ := rdee_of_trod f1 (sized_field (j := 1) s0 Try.underlying25 rfl rfl)
  obtain ⟨A, n, c, V, rfl, hV, hn⟩ := rdii_of_trod g1 s1
  exact ⟨AW, nW, cW, Ws, AE, nE, cE, ee, A, n, c, V, rfl, hW, hE, hV, hn⟩
end
end Go.Proofs.Ytjadgomakoaibaa
