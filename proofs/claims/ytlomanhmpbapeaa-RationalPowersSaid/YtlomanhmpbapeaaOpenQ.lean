/- A rational that came in, opened. -/
import Derived.Test.YtlomanhmpbapeaaSized
import Derived.Test.YtlomanhmpbapeaaOpenL
import Derived.Test.YtlomanhmpbapeaaRatLong
import Derived.Lib.SmallJoins
import Derived.Deep.Strs
namespace Go.Proofs.Ytlomanhmpbapeaa
open Go.ChangeShapes Go.WideShapes Go.ChangeAt Go.RowKit Go.Deep Go.Joins

section
variable {H : Type} {enc : TypeId × Value → H} {W : World} {base : Nat} {v : Value} {d : DataW H} {p : List MemPlace}

theorem open_rat_sized (hv : Value.okWide Try.prog W .any base 25 v) (h : DataW.Trod enc Try.prog W 0 (fun _ => true) true 25 v d p) (hs : Sized 25 d) :
    ∃ s A n c ln B m e ld, v = .agg #[.bool s, .slice A n c, .slice B m e] ∧ Rd W A n c ln ∧ n ≤ 35184372088832 ∧ Rd W B m e ld ∧ m ≤ 35184372088832 := by
  obtain ⟨v0, v1, v2, y0, y1, y2, k, rfl, rfl, rfl, h0, h1, h2⟩ := open_agg3 Try.underlying25 (by kernel_rfl) (by kernel_rfl) hv h
  obtain ⟨s, e0, _⟩ := DataW.trod_bool Try.underlying4 h0
  obtain rfl : v0 = .bool s := by simpa using e0
  obtain ⟨A, n, c, ln, rfl, hn⟩ := rdv_of_trod h1
  obtain ⟨B, m, e, ld, rfl, hm⟩ := rdv_of_trod h2
  exact ⟨s, A, n, c, ln, B, m, e, ld, rfl, hn, len_of_trod h1 (sized_field (j := 1) hs Try.underlying25 rfl rfl), hm, len_of_trod h2 (sized_field (j := 2) hs Try.underlying25 rfl rfl)⟩
end
end Go.Proofs.Ytlomanhmpbapeaa
