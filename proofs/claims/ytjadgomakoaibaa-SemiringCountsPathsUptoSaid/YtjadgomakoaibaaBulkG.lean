/- A layered graph with numbers that came in, its lists bounded by the bulk of what was read. -/
import Derived.Test.YtjadgomakoaibaaOpenG
import Derived.Test.YtjadgomakoaibaaRows
namespace Go.Proofs.Ytjadgomakoaibaa
open Go.ChangeShapes Go.WideShapes Go.ChangeAt Go.RowKit Go.Deep Go.Joins

section
variable {H : Type}
theorem bulk_pos (d : DataW H) : 1 ≤ Rows.uptoBulk d := by
  cases d with
  | lit l => cases l <;> simp [Rows.uptoBulk]
  | _ => simp [Rows.uptoBulk]
theorem bulk_length (l : List (DataW H)) : l.length ≤ Rows.uptoBulkAll l := by
  induction l with
  | nil => simp [Rows.uptoBulkAll]
  | cons x r ih => have := bulk_pos x; simp only [Rows.uptoBulkAll, List.length_cons]; omega
theorem bulk_mem {d : DataW H} {l : List (DataW H)} (h : d ∈ l) : Rows.uptoBulk d ≤ Rows.uptoBulkAll l := by
  induction l with
  | nil => cases h
  | cons x r ih =>
    simp only [Rows.uptoBulkAll]
    rcases List.mem_cons.1 h with rfl | h
    · omega
    · have := ih h; omega
theorem bulk_slice (es sp : List (DataW H)) : es.length + 1 ≤ Rows.uptoBulk (.slice es sp) := by
  have := bulk_length es
  simp only [Rows.uptoBulk]
  omega
theorem bulk_elem {d : DataW H} {es : List (DataW H)} (sp : List (DataW H)) (h : d ∈ es) : Rows.uptoBulk d ≤ Rows.uptoBulk (.slice es sp) := by
  have := bulk_mem h
  simp only [Rows.uptoBulk]
  omega
theorem bulk_part {d : DataW H} {ps : List (DataW H)} (h : d ∈ ps) : Rows.uptoBulk d ≤ Rows.uptoBulk (.agg ps) := by
  have := bulk_mem h
  simp only [Rows.uptoBulk]
  omega
variable {enc : TypeId × Value → H} {W : World} {base : Nat} {v : Value} {d : DataW H} {p : List MemPlace}

theorem rdi_bulk {held : Bool} {fuel : Nat} {u : Value} {x : DataW H × List MemPlace}
    (hf : DataW.trod enc Try.prog W base (fun _ => true) held fuel 22 [u] = some x) : ∃ A n c zs, u = .slice A n c ∧ RdI W A n c zs ∧ n ≤ Rows.uptoBulk x.1 := by
  obtain ⟨A, n, c, zs, rfl, hz⟩ := rdi_of_trod hf
  refine ⟨A, n, c, zs, rfl, hz, ?_⟩
  rcases open_ints Try.underlying22 Try.underlying3 (by kernel_rfl) hf with ⟨hcs, _⟩ | ⟨a, n', c', ys, hcs, _, hl, _, hlen, hx, _⟩
  · simp at hcs
    omega
  · simp at hcs
    obtain ⟨_, rfl, rfl⟩ := hcs
    rw [hx]
    have h1 := bulk_slice (H := H) (lits .i64 (ys.take n)) (lits .i64 (ys.drop n))
    have h2 : n ≤ ys.length := by rw [hlen]; split <;> omega
    simp only [lits, List.length_map, List.length_take] at h1 ⊢
    omega

theorem rdii_bulk {held : Bool} {fuel : Nat} {u : Value} {x : DataW H × List MemPlace}
    (hf : DataW.trod enc Try.prog W base (fun _ => true) held fuel 26 [u] = some x) :
    ∃ A n c V, u = .slice A n c ∧ RdR intC 0 W 1 A n c V ∧ n ≤ Rows.uptoBulk x.1 ∧ ∀ i, i < n → (V.getD i []).length ≤ Rows.uptoBulk x.1 := by
  rcases open_slice1 Try.underlying26 (by kernel_rfl) hf with ⟨hcs, _⟩ | ⟨a, n, c, m, k, V, D, Pl, hcs, _, hl, hm, hmm, hx, hV⟩
  · exact ⟨none, 0, 0, [], by simpa using hcs, ⟨rfl, Nat.le_refl _, Nat.zero_le _, fun h => absurd h (by omega)⟩, Nat.zero_le _, fun i hi => absurd hi (by omega)⟩
  · simp only [if_true] at hmm
    subst hmm
    rw [hx]
    have key : ∀ j, j < n → ∃ y : List Int, ∃ A k e, V j = .slice A k e ∧ RdI W A k e y ∧ k ≤ Rows.uptoBulk (D j) := by
      intro j hj
      obtain ⟨A, k, e, zs, h1, h2, h3⟩ := rdi_bulk (hV j (by omega)).2
      exact ⟨zs, A, k, e, h1, h2, h3⟩
    obtain ⟨Y, hY⟩ := Go.Deep.choose_lt key
    have e9 : ∀ j, j < n → ((List.range n).map Y).getD j [] = Y j := fun j hj => by simp [List.getD_eq_getElem?_getD, hj]
    refine ⟨some a, n, _, (List.range n).map Y, by simpa using hcs, ⟨by simp, hl, hm, fun hn => ?_⟩, ?_, fun i hi => ?_⟩
    · have h0 := (hV 0 (by omega)).1
      obtain ⟨b, off, spot⟩ := a
      have hspot : spot = none := by simpa [Addr.add] using World.cell?_spot h0
      subst hspot
      refine ⟨b, off, rfl, by simpa [Addr.add] using block_lt_of_cell h0, fun j hj => ?_⟩
      obtain ⟨A, k, e, h1, h2, _⟩ := hY j hj
      have h3 := (hV j (by omega)).1
      rw [Addr.add_lit, h1] at h3
      refine ⟨A, k, e, h3, ?_⟩
      rw [e9 j hj]; exact h2.rdv
    · refine Nat.le_trans ?_ (bulk_slice _ _)
      simp
    · obtain ⟨A, k, e, h1, h2, h3⟩ := hY i hi
      rw [e9 i hi, h2.len]
      exact Nat.le_trans h3 (bulk_elem _ (List.mem_map.2 ⟨i, List.mem_range.2 hi, rfl⟩))

theorem open_graph_bulk (hv : Value.okWide Try.prog W .any base 28 v) (h : DataW.Trod enc Try.prog W 0 (fun _ => true) true 28 v d p) (hs : Sized 28 d) :
    ∃ AW nW cW Ws AE nE cE ee A n c V, v = .agg #[.slice AW nW cW, .slice AE nE cE, .slice A n c] ∧ RdI W AW nW cW Ws ∧ RdEE W AE nE cE ee ∧ RdR intC 0 W 1 A n c V ∧ n ≤ Rows.uptoBulk d ∧ ∀ i, i < n → (V.getD i []).length ≤ Rows.uptoBulk d := by
  obtain ⟨cs, rfl, hsz⟩ := okWide_struct Try.underlying28 hv
  have hC : Try.prog.cellsOf 28 = 3 := by kernel_rfl
  obtain ⟨c0, c1, c2, rfl⟩ : ∃ c0 c1 c2, cs = #[c0, c1, c2] := by
    have h9 := hsz.trans hC
    obtain ⟨l⟩ := cs
    match l, h9 with
    | [c0, c1, c2], _ => exact ⟨c0, c1, c2, rfl⟩
  obtain ⟨fuel, hf⟩ := h
  obtain ⟨y0, y1, k, hx, _, h0, h1⟩ := trod_struct2 Try.underlying28 hf
  have k0 : Try.prog.cellsOf 25 = 2 := by kernel_rfl
  have k1 : Try.prog.cellsOf 26 = 1 := by kernel_rfl
  have g0 : DataW.trod enc Try.prog W 0 (fun _ => true) true k 25 [c0, c1] = some y0 := by simpa [Value.cells, k0] using h0
  have g1 : DataW.trod enc Try.prog W 0 (fun _ => true) true k 26 [c2] = some y1 := by simpa [Value.cells, k1] using h1
  obtain ⟨z0, z1, k', hx', _, e0, e1⟩ := trod_struct2 Try.underlying25 g0
  have k2 : Try.prog.cellsOf 22 = 1 := by kernel_rfl
  have k3 : Try.prog.cellsOf 23 = 1 := by kernel_rfl
  have f0 : DataW.trod enc Try.prog W 0 (fun _ => true) true k' 22 [c0] = some z0 := by simpa [Value.cells, k2] using e0
  have f1 : DataW.trod enc Try.prog W 0 (fun _ => true) true k' 23 [c1] = some z1 := by simpa [Value.cells, k3] using e1
  simp only [Prod.mk.injEq] at hx
  rw [hx.1] at hs ⊢
  have s0 : Sized 25 y0.1 := sized_field (j := 0) hs Try.underlying28 rfl rfl
  rw [hx'] at s0
  have hp : Rows.uptoBulk y1.1 ≤ Rows.uptoBulk (.agg [y0.1, y1.1]) := bulk_part (by simp)
  obtain ⟨AW, nW, cW, Ws, rfl, hW⟩ := rdi_of_trod f0
  obtain ⟨AE, nE, cE, ee, rfl, hE⟩ := rdee_of_trod f1 (sized_field (j := 1) s0 Try.underlying25 rfl rfl)
  obtain ⟨A, n, c, V, rfl, hV, hn, hr⟩ := rdii_bulk g1
  exact ⟨AW, nW, cW, Ws, AE, nE, cE, ee, A, n, c, V, rfl, hW, hE, hV, Nat.le_trans hn hp, fun i hi => Nat.le_trans (hr i hi) hp⟩
end
end Go.Proofs.Ytjadgomakoaibaa
