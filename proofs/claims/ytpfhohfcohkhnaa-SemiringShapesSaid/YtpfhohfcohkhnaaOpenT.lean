/- A layered graph that came in, opened. -/
import Derived.Test.YtpfhohfcohkhnaaSized
import Derived.Test.YtpfhohfcohkhnaaShape
import Derived.Lib.SmallJoins
import Derived.Deep.Strs
namespace Go.Proofs.Ytpfhohfcohkhnaa
open Go.ChangeShapes Go.WideShapes Go.ChangeAt Go.RowKit Go.Deep Go.Joins

theorem weightsAll_mem {H : Type} {e : TypeId} : ∀ {ds : List (DataW H)} {d : DataW H}, d ∈ ds → ∀ n ∈ d.weights Try.prog e, n ∈ DataW.weightsAll Try.prog e ds
  | x :: ds, d, h, n, hn => by
    simp only [DataW.weightsAll, List.mem_append]
    rcases List.mem_cons.1 h with rfl | h
    · exact .inl hn
    · exact .inr (weightsAll_mem h n hn)
theorem sized_elem {H : Type} {t e : TypeId} {elems spare : List (DataW H)} {d : DataW H} (h : Sized t (.slice elems spare)) (hu : Try.prog.underlying t = some (.slice e)) (hd : d ∈ elems) : Sized e d := fun n hn =>
  h n (by simp only [DataW.weights, hu, List.mem_cons, List.mem_append]; exact .inr (.inl (weightsAll_mem hd n hn)))
theorem sized_field {H : Type} {t : TypeId} {fs : Array Field} {parts : List (DataW H)} {d : DataW H} {j : Nat} {t' : TypeId} (h : Sized t (.agg parts)) (hu : Try.prog.underlying t = some (.struct fs))
    (ht : (fs.toList.map (·.type))[j]? = some t') (hd : parts[j]? = some d) : Sized t' d := fun n hn =>
  h n (by simp only [DataW.weights, hu]; exact DataW.weights_mem_each ht hd n hn)

section
variable {H : Type} {enc : TypeId × Value → H} {W : World} {base : Nat} {v : Value} {d : DataW H} {p : List MemPlace}

theorem bytesEdge : Try.prog.bytesOf 74 = 24 := by kernel_rfl

/-- A slice of ints that came in. -/
theorem rdi_of_trod {spare : Nat → Bool} {held : Bool} {fuel : Nat} {u : Value} {x : DataW H × List MemPlace}
    (hf : DataW.trod enc Try.prog W base spare held fuel 34 [u] = some x) : ∃ A n c zs, u = .slice A n c ∧ RdI W A n c zs := by
  rcases open_ints Try.underlying34 Try.underlying3 (by kernel_rfl) hf with ⟨hcs, _⟩ | ⟨a, n, c, zs, hcs, _, hl, hm, hz, _, hcell, hwz⟩
  · exact ⟨none, 0, 0, [], by simpa using hcs, rfl, Nat.le_refl _, Nat.zero_le _, (fun _ h => by simp at h), fun h => absurd h (by omega)⟩
  · have hlen : n ≤ zs.length := by rw [hz]; split <;> omega
    refine ⟨some a, n, c, zs.take n, by simpa using hcs, by simp; omega, hl, hm, fun z hz => ?_, fun hn => ?_⟩
    · exact int_of_i64 (hwz z (List.mem_of_mem_take hz))
    · have h0 := hcell 0 (by omega)
      obtain ⟨b, off, spot⟩ := a
      have hspot : spot = none := by simpa [Addr.add] using World.cell?_spot h0
      subst hspot
      refine ⟨b, off, rfl, ?_, fun j hj => ?_⟩
      · simpa [Addr.add] using block_lt_of_cell h0
      · have := hcell j (by omega)
        rw [Addr.add_lit] at this
        rw [this]
        simp [List.getD_eq_getElem?_getD, hj]

/-- A slice of edges that came in. -/
theorem rde_of_trod {spare : Nat → Bool} {held : Bool} {fuel : Nat} {u : Value} {x : DataW H × List MemPlace} (hsp : ∀ b, spare b = true)
    (hf : DataW.trod enc Try.prog W base spare held fuel 72 [u] = some x) (hs : Sized 72 x.1) : ∃ A n c es, u = .slice A n c ∧ RdE W A n c es ∧ n ≤ 35184372088832 := by
  rcases open_slice Try.underlying72 hf with ⟨hcs, _⟩ | ⟨a, n, c, m, k, D, Pl, hcs, _, hl, hm, hmm, hx, hi⟩
  · exact ⟨none, 0, 0, [], by simpa using hcs, ⟨rfl, Nat.le_refl _, Nat.zero_le _, fun h => absurd h (by omega)⟩, by omega⟩
  · rw [hsp, if_pos rfl] at hmm
    subst hmm
    have hlen : n ≤ 35184372088832 := by
      rw [hx] at hs
      have := sized_slice_len hs Try.underlying72
      rw [bytesEdge] at this
      simp only [List.length_map, List.length_range, reachBytes] at this
      omega
    have hC : Try.prog.cellsOf 74 = 3 := by kernel_rfl
    have key : ∀ j, j < n → ∃ e : EdgeT, W.cell? (a.add (j * 3)) = some (.int .i64 e.1) ∧ W.cell? (a.add (j * 3 + 1)) = some (.int .i64 e.2.1) ∧ W.cell? (a.add (j * 3 + 2)) = some (.int .i64 e.2.2) := by
      intro j hj
      obtain ⟨cs', hc, ht⟩ := hi j (by omega)
      rw [hC] at hc
      obtain ⟨_, hcl, hat⟩ := World.cells?_some hc
      obtain ⟨y0, y1, y2, n', _, _, h0, h1, h2⟩ := trod_struct3 Try.underlying74 ht
      match cs', hcl with
      | [c0, c1, c2], _ =>
        have k0 : Try.prog.cellsOf 3 = 1 := by kernel_rfl
        simp only [k0] at h0 h1 h2
        obtain ⟨z0, e0, _, _⟩ := DataW.trod_int Try.underlying3 h0
        obtain ⟨z1, e1, _, _⟩ := DataW.trod_int Try.underlying3 h1
        obtain ⟨z2, e2, _, _⟩ := DataW.trod_int Try.underlying3 h2
        simp at e0 e1 e2
        have g0 := hat 0 (by omega)
        have g1 := hat 1 (by omega)
        have g2 := hat 2 (by omega)
        rw [add_add] at g0 g1 g2
        exact ⟨(z0, z1, z2), by simpa [e0] using g0, by simpa [e1] using g1, by simpa [e2] using g2⟩
    obtain ⟨E, hE⟩ := Go.Deep.choose_lt key
    refine ⟨some a, n, _, (List.range n).map E, by simpa using hcs, ⟨by simp, hl, hm, fun hn => ?_⟩, hlen⟩
    have h0 := (hE 0 hn).1
    obtain ⟨b, off, spot⟩ := a
    have hspot : spot = none := by simpa [Addr.add] using World.cell?_spot h0
    subst hspot
    refine ⟨b, off, rfl, by simpa [Addr.add] using block_lt_of_cell h0, fun j hj => ?_⟩
    have e9 : ((List.range n).map E).getD j (0, 0, 0) = E j := by simp [List.getD_eq_getElem?_getD, hj]
    rw [e9]
    obtain ⟨h1, h2, h3⟩ := hE j hj
    rw [Addr.add_lit] at h1 h2 h3
    exact ⟨h1, h2, h3⟩

/-- A slice of lists of edges that came in. -/
theorem rdee_of_trod {held : Bool} {fuel : Nat} {u : Value} {x : DataW H × List MemPlace}
    (hf : DataW.trod enc Try.prog W base (fun _ => true) held fuel 35 [u] = some x) (hs : Sized 35 x.1) : ∃ A n c ee, u = .slice A n c ∧ RdEE W A n c ee := by
  rcases open_slice1 Try.underlying35 (by kernel_rfl) hf with ⟨hcs, _⟩ | ⟨a, n, c, m, k, V, D, Pl, hcs, _, hl, hm, hmm, hx, hV⟩
  · exact ⟨none, 0, 0, [], by simpa using hcs, rfl, Nat.le_refl _, Nat.zero_le _, (fun _ h => by simp at h), fun h => absurd h (by omega)⟩
  · simp only [if_true] at hmm
    subst hmm
    rw [hx] at hs
    have key : ∀ j, j < n → ∃ y : List EdgeT, ∃ A k e, V j = .slice A k e ∧ RdE W A k e y ∧ k ≤ 35184372088832 := by
      intro j hj
      obtain ⟨A, k, e, es, h1, h2, h3⟩ := rde_of_trod (fun _ => rfl) (hV j (by omega)).2 (sized_elem hs Try.underlying35 (List.mem_map.2 ⟨j, List.mem_range.2 hj, rfl⟩))
      exact ⟨es, A, k, e, h1, h2, h3⟩
    obtain ⟨Y, hY⟩ := Go.Deep.choose_lt key
    refine ⟨some a, n, _, (List.range n).map Y, by simpa using hcs, ⟨by simp, hl, hm, fun l hl => ?_, fun hn => ?_⟩⟩
    · obtain ⟨j, hj, rfl⟩ := List.mem_map.1 hl
      obtain ⟨_, _, _, _, h2, h3⟩ := hY j (List.mem_range.1 hj)
      rw [h2.len]; exact h3
    · have h0 := (hV 0 (by omega)).1
      obtain ⟨b, off, spot⟩ := a
      have hspot : spot = none := by simpa [Addr.add] using World.cell?_spot h0
      subst hspot
      refine ⟨b, off, rfl, by simpa [Addr.add] using block_lt_of_cell h0, fun j hj => ?_⟩
      obtain ⟨A, k, e, h1, h2, _⟩ := hY j hj
      have h3 := (hV j (by omega)).1
      rw [Addr.add_lit, h1] at h3
      refine ⟨A, k, e, h3, ?_⟩
      have e9 : ((List.range n).map Y).getD j [] = Y j := by simp [List.getD_eq_getElem?_getD, hj]
      rw [e9]; exact h2

theorem open_trellis_sized (hv : Value.okWide Try.prog W .any base 37 v) (h : DataW.Trod enc Try.prog W 0 (fun _ => true) true 37 v d p) (hs : Sized 37 d) :
    ∃ AW nW cW Ws AE nE cE ee, v = .agg #[.slice AW nW cW, .slice AE nE cE] ∧ RdI W AW nW cW Ws ∧ RdEE W AE nE cE ee := by
  obtain ⟨v0, v1, y0, y1, n, rfl, rfl, rfl, h0, h1⟩ := open_agg2 Try.underlying37 (by kernel_rfl) (by kernel_rfl) hv h
  obtain ⟨AW, nW, cW, Ws, rfl, hW⟩ := rdi_of_trod h0
  obtain ⟨AE, nE, cE, ee, rfl, hE⟩ := rdee_of_trod h1 (sized_field (j := 1) hs Try.underlying37 rfl rfl)
  exact ⟨AW, nW, cW, Ws, AE, nE, cE, ee, rfl, hW, hE⟩
end
end Go.Proofs.Ytpfhohfcohkhnaa
