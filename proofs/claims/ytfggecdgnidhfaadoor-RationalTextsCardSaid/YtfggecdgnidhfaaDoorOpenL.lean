/- An argument that is a slice of lists of limbs, opened. -/
import Derived.Test.YtfggecdgnidhfaaDoorOpen
namespace Go.Proofs.YtfggecdgnidhfaaDoor
open Go.ChangeShapes Go.WideShapes Go.ChangeAt Go.RowKit Go.Deep

section
variable {H : Type} {enc : TypeId × Value → H} {W : World} {base : Nat} {v : Value} {d : DataW H} {p : List MemPlace}

theorem rdv_of_trod {spare : Nat → Bool} {held : Bool} {fuel : Nat} {u : Value} {x : DataW H × List MemPlace}
    (hf : DataW.trod enc Tryd.prog W base spare held fuel 23 [u] = some x) : ∃ A n c l, u = .slice A n c ∧ Rd W A n c l := by
  have key : ∃ A n c, u = .slice A n c := by
    rcases open_ints Tryd.underlying23 Tryd.underlying40 (by kernel_rfl) hf with ⟨hcs, _⟩ | ⟨a, len', cap', zs, hcs, _⟩
    · exact ⟨none, 0, 0, by simpa using hcs⟩
    · exact ⟨some a, len', cap', by simpa using hcs⟩
  obtain ⟨A, n, c, rfl⟩ := key
  obtain ⟨l, hl⟩ := rd_of_trod hf
  exact ⟨A, n, c, l, rfl, hl⟩

theorem bytesNat : Tryd.prog.bytesOf 23 = 24 := by kernel_rfl

end
end Go.Proofs.YtfggecdgnidhfaaDoor
