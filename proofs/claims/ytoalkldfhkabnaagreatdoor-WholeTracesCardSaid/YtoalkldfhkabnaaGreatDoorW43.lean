/- Part of WholeTraces. -/
import Derived.Test.YtoalkldfhkabnaaGreatDoorChecked
import Derived.ProofKit
import Derived.OpenShut
import Derived.ShutString
import Derived.ChangeOld
import Derived.Deep.Slices
import Derived.SizedLaws
import Derived.Deep.Strs
import Derived.Lib.SmallJoins
import Derived.Test.YtoalkldfhkabnaaGreatDoorW00
import Derived.Test.YtoalkldfhkabnaaGreatDoorW27
set_option linter.all false
set_option maxRecDepth 10000
set_option maxHeartbeats 16000000
namespace Go.Proofs.YtoalkldfhkabnaaGreatDoor
section
open Go.ChangeShapes Go.WideShapes Go.ChangeAt Go.RowKit Go.Deep Go.Joins
theorem Qx : Tryz.prog.liftsFinal = false := by kernel_rfl
theorem oY : Tryz.prog.make = some .cut := by kernel_rfl
theorem Wg : Tryz.prog.mayEnter = true := by kernel_rfl
theorem own : ownKnob Tryz.prog.godebug = none := by kernel_rfl
theorem dB : laidOutB Tryz.prog = true := by kernel_rfl
section
variable {H : Type} {enc : TypeId × Value -> H} {W : World} {base : Nat} {v : Value} {d : DataW H} {p : List MemPlace}
theorem Ni {spare : Nat -> Bool} {held : Bool} {fuel : Nat} {u : Value} {x : DataW H × List MemPlace}
  (hf : DataW.trod enc Tryz.prog W base spare held fuel 22 [u] = some x) : ∃ A n c zs, u = .slice A n c ∧ RdZ W A n c zs := by
 rcases open_ints Tryz.underlying22 Tryz.underlying3 (by kernel_rfl) hf with ⟨hcs, _⟩ | ⟨a, n, c, zs, hcs, _, hl, hm, hz, _, hcell, hwz⟩
 ·exact ⟨none, 0, 0, [], by simpa using hcs, rfl, Nat.le_refl _, Nat.zero_le _, fun h => absurd h (by omega)⟩
 ·have hlen : n <= zs.length := by rw [hz]; split <;> omega
  refine ⟨some a, n, c, zs.take n, by simpa using hcs, by simp; omega, hl, hm, fun hn => ?_⟩
  have h0 := hcell 0 (by omega)
  obtain ⟨b, off, spot⟩ := a
  have hspot : spot = none := by simpa [Addr.add] using World.cell?_spot h0
  subst hspot
  refine ⟨b, off, rfl, ?_, fun j hj => ?_⟩
  ·simpa [Addr.add] using block_lt_of_cell h0
  ·have := hcell j (by omega)
   rw [Addr.add_lit] at this
   rw [this]
   simp [List.getD_eq_getElem?_getD, hj]
theorem Su {held : Bool} {fuel : Nat} {u : Value} {x : DataW H × List MemPlace}
  (hf : DataW.trod enc Tryz.prog W base (fun _ => true) held fuel 25 [u] = some x) : ∃ A n c V, u = .slice A n c ∧ RdMZ W A n c V := by
 rcases open_slice1 Tryz.underlying25 (by kernel_rfl) hf with ⟨hcs, _⟩ | ⟨a, n, c, m, k, V, D, Pl, hcs, _, hl, hm, hmm, hx, hV⟩
 ·exact ⟨none, 0, 0, [], by simpa using hcs, rfl, Nat.le_refl _, Nat.zero_le _, fun h => absurd h (by omega)⟩
 ·simp only [if_true] at hmm
  subst hmm
  have key : ∀ j, j < n -> ∃ y : List Int, ∃ A k e, V j = .slice A k e ∧ RdZ W A k e y := by
   intro j hj
   obtain ⟨A, k, e, zs, h1, h2⟩ := Ni (hV j (by omega)).2
   exact ⟨zs, A, k, e, h1, h2⟩
  obtain ⟨Y, hY⟩ := Go.Deep.choose_lt key
  refine ⟨some a, n, _, (List.range n).map Y, by simpa using hcs, by simp, hl, hm, fun hn => ?_⟩
  have h0 := (hV 0 (by omega)).1
  obtain ⟨b, off, spot⟩ := a
  have hspot : spot = none := by simpa [Addr.add] using World.cell?_spot h0
  subst hspot
  refine ⟨b, off, rfl, by simpa [Addr.add] using block_lt_of_cell h0, fun j hj => ?_⟩
  obtain ⟨A, k, e, h1, h2⟩ := hY j hj
  have h3 := (hV j (by omega)).1
  rw [Addr.add_lit, h1] at h3
  have e9 : ((List.range n).map Y).getD j [] = Y j := by simp [List.getD_eq_getElem?_getD, hj]
  rw [e9]
  refine ⟨A, e, ?_, ?_⟩
  ·rw [h3, h2.len]
  ·rw [h2.len]; exact h2
theorem Jt {k : Nat} {c0 c1 c2 : Value} {y : DataW H × List MemPlace} (g0 : DataW.trod enc Tryz.prog W 0 (fun _ => true) true k 24 [c0, c1, c2] = some y) :
  ∃ P M A n c zs, c0 = .int .i64 P ∧ c1 = .int .i64 M ∧ c2 = .slice A n c ∧ RdZ W A n c zs := by
 obtain ⟨z0, z1, z2, k', _, _, e0, e1, e2⟩ := trod_struct3 Tryz.underlying24 g0
 have k0 : Tryz.prog.cellsOf 3 = 1 := by kernel_rfl
 have k2 : Tryz.prog.cellsOf 22 = 1 := by kernel_rfl
 have f0 : DataW.trod enc Tryz.prog W 0 (fun _ => true) true k' 3 [c0] = some z0 := by simpa [Value.cells, k0] using e0
 have f1 : DataW.trod enc Tryz.prog W 0 (fun _ => true) true k' 3 [c1] = some z1 := by simpa [Value.cells, k0] using e1
 have f2 : DataW.trod enc Tryz.prog W 0 (fun _ => true) true k' 22 [c2] = some z2 := by simpa [Value.cells, k2] using e2
 obtain ⟨P, h0, _, _⟩ := DataW.trod_int Tryz.underlying3 f0
 obtain ⟨M, h1, _, _⟩ := DataW.trod_int Tryz.underlying3 f1
 obtain ⟨A, n, c, zs, rfl, hz⟩ := Ni f2
 exact ⟨P, M, A, n, c, zs, by simpa using h0, by simpa using h1, rfl, hz⟩
set_option maxRecDepth 100000 in
theorem aD (hv : Value.okWide Tryz.prog W .any base 24 v) (h : DataW.Trod enc Tryz.prog W 0 (fun _ => true) true 24 v d p) :
  ∃ P M A n c zs, v = .agg #[.int .i64 P, .int .i64 M, .slice A n c] ∧ RdZ W A n c zs := by
 obtain ⟨cs, rfl, hsz⟩ := okWide_struct Tryz.underlying24 hv
 have hC : Tryz.prog.cellsOf 24 = 3 := by kernel_rfl
 obtain ⟨c0, c1, c2, rfl⟩ : ∃ c0 c1 c2, cs = #[c0, c1, c2] := by
  have h9 := hsz.trans hC
  obtain ⟨l⟩ := cs
  match l, h9 with
  | [c0, c1, c2], _ => exact ⟨c0, c1, c2, rfl⟩
 obtain ⟨fuel, hf⟩ := h
 obtain ⟨P, M, A, n, c, zs, rfl, rfl, rfl, hz⟩ := Jt hf
 exact ⟨P, M, A, n, c, zs, rfl, hz⟩
set_option maxRecDepth 100000 in
theorem fE (hv : Value.okWide Tryz.prog W .any base 27 v) (h : DataW.Trod enc Tryz.prog W 0 (fun _ => true) true 27 v d p) :
  ∃ P M A n c zs N B k e R, v = .agg #[.int .i64 P, .int .i64 M, .slice A n c, .int .i64 N, .slice B k e] ∧ RdZ W A n c zs ∧ RdMZ W B k e R := by
 obtain ⟨cs, rfl, hsz⟩ := okWide_struct Tryz.underlying27 hv
 have hC : Tryz.prog.cellsOf 27 = 5 := by kernel_rfl
 obtain ⟨c0, c1, c2, c3, c4, rfl⟩ : ∃ c0 c1 c2 c3 c4, cs = #[c0, c1, c2, c3, c4] := by
  have h9 := hsz.trans hC
  obtain ⟨l⟩ := cs
  match l, h9 with
  | [c0, c1, c2, c3, c4], _ => exact ⟨c0, c1, c2, c3, c4, rfl⟩
 obtain ⟨fuel, hf⟩ := h
 obtain ⟨y0, y1, y2, k, _, _, h0, h1, h2⟩ := trod_struct3 Tryz.underlying27 hf
 have k0 : Tryz.prog.cellsOf 24 = 3 := by kernel_rfl
 have k1 : Tryz.prog.cellsOf 3 = 1 := by kernel_rfl
 have k2 : Tryz.prog.cellsOf 25 = 1 := by kernel_rfl
 have g0 : DataW.trod enc Tryz.prog W 0 (fun _ => true) true k 24 [c0, c1, c2] = some y0 := by simpa [Value.cells, k0] using h0
 have g1 : DataW.trod enc Tryz.prog W 0 (fun _ => true) true k 3 [c3] = some y1 := by simpa [Value.cells, k1] using h1
 have g2 : DataW.trod enc Tryz.prog W 0 (fun _ => true) true k 25 [c4] = some y2 := by simpa [Value.cells, k2] using h2
 obtain ⟨P, M, A, n, c, zs, rfl, rfl, rfl, hz⟩ := Jt g0
 obtain ⟨N, h3, _, _⟩ := DataW.trod_int Tryz.underlying3 g1
 obtain rfl : c3 = .int .i64 N := by simpa using h3
 obtain ⟨B, m, e, R, rfl, hR⟩ := Su g2
 exact ⟨P, M, A, n, c, zs, N, B, m, e, R, rfl, hz, hR⟩
end
end
end Go.Proofs.YtoalkldfhkabnaaGreatDoor
