/- An argument that is a slice of lists of limbs, opened. -/
import Derived.Test.YtonimfogmplgdaaOpen
namespace Go.Proofs.Ytonimfogmplgdaa
open Go.ChangeShapes Go.WideShapes Go.ChangeAt Go.RowKit Go.Deep

section
variable {H : Type} {enc : TypeId × Value → H} {W : World} {base : Nat} {v : Value} {d : DataW H} {p : List MemPlace}

theorem rdv_of_trod {spare : Nat → Bool} {held : Bool} {fuel : Nat} {u : Value} {x : DataW H × List MemPlace}
    (hf : DataW.trod enc Try.prog W base spare held fuel 23 [u] = some x) : ∃ A n c l, u = .slice A n c ∧ Rd W A n c l := by
  have key : ∃ A n c, u = .slice A n c := by
    rcases open_ints Try.underlying23 Try.underlying33 (by kernel_rfl) hf with ⟨hcs, _⟩ | ⟨a, len', cap', zs, hcs, _⟩
    · exact ⟨none, 0, 0, by simpa using hcs⟩
    · exact ⟨some a, len', cap', by simpa using hcs⟩
  obtain ⟨A, n, c, rfl⟩ := key
  obtain ⟨l, hl⟩ := rd_of_trod hf
  exact ⟨A, n, c, l, rfl, hl⟩

theorem bytesNat : Try.prog.bytesOf 23 = 24 := by kernel_rfl

theorem open_natlist_sized (hv : Value.okWide Try.prog W .any base 29 v) (h : DataW.Trod enc Try.prog W 0 (fun _ => true) true 29 v d p) (hs : Sized 29 d) :
    ∃ A n c ll, v = .slice A n c ∧ RdL W A n c ll ∧ (A = none → c = 0) ∧ n ≤ 35184372088832 := by
  obtain ⟨A, n, c, rfl⟩ := okWide_slice Try.underlying29 hv
  obtain ⟨fuel, hf⟩ := h
  rcases open_slice1 Try.underlying29 (by kernel_rfl) hf with ⟨hcs, _⟩ | ⟨a, len, cap, m, k, V, D, Pl, hcs, _, hl, hm, hmm, hx, hV⟩
  · injection hcs with h1 _; injection h1 with e1 e2 e3
    subst e1 e2 e3
    exact ⟨none, 0, 0, [], rfl, RdL.nil W, fun _ => rfl, by omega⟩
  · injection hcs with h1 _; injection h1 with e1 e2 e3
    subst e1 e2 e3
    simp only [if_true] at hmm
    have hmm' := hmm.symm
    subst hmm'
    have hx1 : d = .slice ((List.range n).map D) ((List.range (c - n)).map fun j => D (n + j)) := congrArg Prod.fst hx
    rw [hx1] at hs
    have hlen := sized_slice_len hs Try.underlying29
    rw [bytesNat] at hlen
    simp only [List.length_map, List.length_range, reachBytes] at hlen
    have hrd : ∀ j, j < n → ∃ y : List Nat, ∃ A n c, V j = .slice A n c ∧ Rd W A n c y := by
      intro j hj
      obtain ⟨A, n, c, l, h1, h2⟩ := rdv_of_trod (hV j (by omega)).2
      exact ⟨l, A, n, c, h1, h2⟩
    obtain ⟨Y, hY⟩ := Go.Deep.choose_lt hrd
    refine ⟨some a, n, c, (List.range n).map Y, rfl, ⟨by simp, hl, hm, fun hn => ?_⟩, (fun h => by cases h), by omega⟩
    have h0 := (hV 0 (by omega)).1
    obtain ⟨b, off, spot⟩ := a
    have hspot : spot = none := by simpa [Addr.add] using World.cell?_spot h0
    subst hspot
    refine ⟨b, off, rfl, ?_, fun j hj => ?_⟩
    · simpa [Addr.add] using block_lt_of_cell h0
    · obtain ⟨A, m, e, h1, h2⟩ := hY j hj
      have h3 := (hV j (by omega)).1
      rw [Addr.add_lit, h1] at h3
      refine ⟨A, m, e, h3, ?_⟩
      have e9 : ((List.range n).map Y).getD j [] = Y j := by simp [List.getD_eq_getElem?_getD, hj]
      rw [e9]; exact h2
end
end Go.Proofs.Ytonimfogmplgdaa
