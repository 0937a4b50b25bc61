/- A least weight that came in, opened. -/
import Derived.Test.YtonimfogmplgdaaSized
import Derived.Test.YtonimfogmplgdaaOpenL
import Derived.Lib.SmallJoins
import Derived.Deep.Strs
namespace Go.Proofs.Ytonimfogmplgdaa
open Go.ChangeShapes Go.WideShapes Go.ChangeAt Go.RowKit Go.Deep Go.Joins

section
variable {H : Type} {enc : TypeId × Value → H} {W : World} {base : Nat} {v : Value} {d : DataW H} {p : List MemPlace}
theorem open_least_sized (hv : Value.okWide Try.prog W .any base 25 v) (h : DataW.Trod enc Try.prog W 0 (fun _ => true) true 25 v d p) (hs : Sized 25 d) :
    ∃ z A n c ln, v = .agg #[.int .i64 z, .slice A n c] ∧ Rd W A n c ln ∧ n ≤ 35184372088832 := by
  obtain ⟨v0, v1, y0, y1, k, rfl, rfl, _, h0, h1⟩ := open_agg2 Try.underlying25 (by kernel_rfl) (by kernel_rfl) hv h
  obtain ⟨z, e0, _, _⟩ := DataW.trod_int Try.underlying3 h0
  obtain rfl : v0 = .int .i64 z := by simpa using e0
  obtain ⟨A, n, c, ln, rfl, hn⟩ := rdv_of_trod h1
  exact ⟨z, A, n, c, ln, rfl, hn, len_of_trod h1 (sized_field (j := 1) hs Try.underlying25 rfl rfl)⟩
end
end Go.Proofs.Ytonimfogmplgdaa
