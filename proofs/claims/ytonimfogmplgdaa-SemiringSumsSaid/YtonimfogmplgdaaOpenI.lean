/- A list of ints that came in, opened. -/
import Derived.Test.YtonimfogmplgdaaOpenT
namespace Go.Proofs.Ytonimfogmplgdaa
open Go.ChangeShapes Go.WideShapes Go.ChangeAt Go.RowKit Go.Deep Go.Joins

section
variable {H : Type} {enc : TypeId × Value → H} {W : World} {base : Nat} {v : Value} {d : DataW H} {p : List MemPlace}
theorem open_intlist (hv : Value.okWide Try.prog W .any base 43 v) (h : DataW.Trod enc Try.prog W 0 (fun _ => true) true 43 v d p) :
    ∃ A n c zs, v = .slice A n c ∧ RdI W A n c zs := by
  obtain ⟨A, n, c, rfl⟩ := okWide_slice Try.underlying43 hv
  obtain ⟨fuel, hf⟩ := h
  obtain ⟨A', n', c', zs, e, h1⟩ := rdi_of_trod hf
  injection e with e1 e2 e3
  subst e1 e2 e3
  exact ⟨A, n, c, zs, rfl, h1⟩
end
end Go.Proofs.Ytonimfogmplgdaa
