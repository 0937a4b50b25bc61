/- A layered graph that came in, opened. -/
import Derived.Test.YtonimfogmplgdaaSized
import Derived.Test.YtonimfogmplgdaaShape
import Derived.Lib.SmallJoins
import Derived.Deep.Strs
namespace Go.Proofs.Ytonimfogmplgdaa
open Go.ChangeShapes Go.WideShapes Go.ChangeAt Go.RowKit Go.Deep Go.Joins

section
variable {H : Type} {enc : TypeId × Value → H} {W : World} {base : Nat} {v : Value} {d : DataW H} {p : List MemPlace}

/-- A slice of ints that came in. -/
theorem rdi_of_trod {spare : Nat → Bool} {held : Bool} {fuel : Nat} {u : Value} {x : DataW H × List MemPlace}
    (hf : DataW.trod enc Try.prog W base spare held fuel 43 [u] = some x) : ∃ A n c zs, u = .slice A n c ∧ RdI W A n c zs := by
  rcases open_ints Try.underlying43 Try.underlying3 (by kernel_rfl) hf with ⟨hcs, _⟩ | ⟨a, n, c, zs, hcs, _, hl, hm, hz, _, hcell, hwz⟩
  · exact ⟨none, 0, 0, [], by simpa using hcs, rfl, Nat.le_refl _, Nat.zero_le _, (fun _ h => by simp at h), fun h => absurd h (by omega)⟩
  · have hlen : n ≤ zs.length := by rw [hz]; split <;> omega
    refine ⟨some a, n, c, zs.take n, by simpa using hcs, by simp; omega, hl, hm, fun z hz => ?_, fun hn => ?_⟩
    · exact int_of_i64 (hwz z (List.mem_of_mem_take hz))
    · have h0 := hcell 0 (by omega)
      obtain ⟨b, off, spot⟩ := a
      have hspot : spot = none := by simpa [Addr.add] using World.cell?_spot h0
      subst hspot
      refine ⟨b, off, rfl, ?_, fun j hj => ?_⟩
      · simpa [Addr.add] using block_lt_of_cell h0
      · have := hcell j (by omega)
        rw [Addr.add_lit] at this
        rw [this]
        simp [List.getD_eq_getElem?_getD, hj]

end
end Go.Proofs.Ytonimfogmplgdaa
