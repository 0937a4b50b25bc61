/- A rational that came in, opened. -/
import Derived.Test.YtfggecdgnidhfaaDoorOpen
import Derived.Test.YtfggecdgnidhfaaDoorOpenL
import Derived.Test.YtfggecdgnidhfaaDoorRatLong
import Derived.Lib.SmallJoins
import Derived.Deep.Strs
namespace Go.Proofs.YtfggecdgnidhfaaDoor
open Go.ChangeShapes Go.WideShapes Go.ChangeAt Go.RowKit Go.Deep Go.Joins

section
variable {H : Type} {enc : TypeId × Value → H} {W : World} {base : Nat} {v : Value} {d : DataW H} {p : List MemPlace}

theorem open_rat_sized (hv : Value.okWide Tryd.prog W .any base 33 v) (h : DataW.Trod enc Tryd.prog W 0 (fun _ => true) true 33 v d p) (hs : Sized 33 d) :
    ∃ s A n c ln B m e ld, v = .agg #[.bool s, .slice A n c, .slice B m e] ∧ Rd W A n c ln ∧ n ≤ 35184372088832 ∧ Rd W B m e ld ∧ m ≤ 35184372088832 := by
  obtain ⟨v0, v1, v2, y0, y1, y2, k, rfl, rfl, rfl, h0, h1, h2⟩ := open_agg3 Tryd.underlying33 (by kernel_rfl) (by kernel_rfl) hv h
  obtain ⟨s, e0, _⟩ := DataW.trod_bool Tryd.underlying4 h0
  obtain rfl : v0 = .bool s := by simpa using e0
  obtain ⟨A, n, c, ln, rfl, hn⟩ := rdv_of_trod h1
  obtain ⟨B, m, e, ld, rfl, hm⟩ := rdv_of_trod h2
  exact ⟨s, A, n, c, ln, B, m, e, ld, rfl, hn, len_of_trod h1 (sized_field (j := 1) hs Tryd.underlying33 rfl rfl), hm, len_of_trod h2 (sized_field (j := 2) hs Tryd.underlying33 rfl rfl)⟩
end
end Go.Proofs.YtfggecdgnidhfaaDoor
