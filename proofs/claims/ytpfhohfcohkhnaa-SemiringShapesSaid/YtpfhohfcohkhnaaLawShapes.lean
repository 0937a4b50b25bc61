/- The walk of the law SemiringShapes. -/
import Derived.Test.YtpfhohfcohkhnaaRefShape
import Derived.Deep.RegionHeld3
namespace Go.Proofs.Ytpfhohfcohkhnaa
open Go.RowKit

section
variable {w w' : World} {A : Option Addr} {n c : Nat}
theorem RdI.up (hb : Below w.heap.size w w') {zs : List Int} (h : RdI w A n c zs) : RdI w' A n c zs := h.below hb
theorem RdEE.up (hb : Below w.heap.size w w') {ee : List (List EdgeT)} (h : RdEE w A n c ee) : RdEE w' A n c ee := h.below hb
theorem RdI.drew {zs : List Int} (h : RdI w A n c zs) : RdI w.drew A n c zs := ⟨h.len, h.cap, h.max, h.wide, h.cells⟩
theorem RdE.drew {es : List EdgeT} (h : RdE w A n c es) : RdE w.drew A n c es := ⟨h.len, h.cap, h.max, h.cells⟩
theorem RdEE.drew {ee : List (List EdgeT)} (h : RdEE w A n c ee) : RdEE w.drew A n c ee :=
  ⟨h.len, h.cap, h.max, h.short, fun hn => by
    obtain ⟨b, off, e, hlt, hc⟩ := h.cells hn
    refine ⟨b, off, e, hlt, fun j hj => ?_⟩
    obtain ⟨Aj, nj, cj, h1, h2⟩ := hc j hj
    exact ⟨Aj, nj, cj, h1, h2.drew⟩⟩
theorem RdI.nil (w : World) : RdI w none 0 0 [] := ⟨rfl, Nat.le_refl _, Nat.zero_le _, (fun _ h => by simp at h), fun h => absurd h (by omega)⟩
theorem RdEE.nil (w : World) : RdEE w none 0 0 [] := ⟨rfl, Nat.le_refl _, Nat.zero_le _, (fun _ h => by simp at h), fun h => absurd h (by omega)⟩
end
theorem shape_nil_any (w : World) : Calls Try.prog 40 #[.agg #[.slice none 0 0, .slice none 0 0]] w (Makes (.int .i64 3) w) := by
  have := shape_any w none 0 0 [] none 0 0 [] (RdI.nil w) (RdEE.nil w)
  rwa [shape_nil] at this
/-- Two numbers that are the same. -/
def shapeW (W : List Int) (ee : List (List EdgeT)) : Int := shapeV W ee

set_option maxHeartbeats 4000000 in
set_option maxRecDepth 10000 in
theorem law_SemiringShapes (w : World) (AW : Option Addr) (nW cW : Nat) (Ws : List Int) (AE : Option Addr) (nE cE : Nat) (ee : List (List EdgeT)) (hW : RdI w AW nW cW Ws) (hE : RdEE w AE nE cE ee) :
    Calls Try.prog 6 #[.agg #[.slice AW nW cW, .slice AE nE cE]] w (Makes (.bool true) w) := by
  obtain ⟨W, hWd⟩ : ∃ W, W = w.alloc (.cells #[.slice AW nW cW, .slice AE nE cE] 37) := ⟨_, rfl⟩
  have hS : Below w.heap.size w W := by rw [hWd]; exact below_alloc w _
  have hc0 : W.cell? ⟨w.heap.size, 0, none⟩ = some (.slice AW nW cW) := by rw [hWd, cell_of_row _ _ _ _ _ _ (heap_alloc_new w _)]; rfl
  have hc1 : W.cell? ⟨w.heap.size, 1, none⟩ = some (.slice AE nE cE) := by rw [hWd, cell_of_row _ _ _ _ _ _ (heap_alloc_new w _)]; rfl
  have hz : w.heap.size < W.heap.size := by rw [hWd]; simp
  have h1 := hW.below hS
  have h2 := hE.below hS
  have HW := hide hWd
  have HC0 := hide hc0
  have HC1 := hide hc1
  clear hWd hW hE
  go_enter Try.func6, Try.ntmps6
  go_wp2_with fail
  rw [← HW.out]
  have hF := From.refl W
  generalize hv : shapeV Ws ee = v
  have hcA := fun (W' : World) (a : RdI W' AW nW cW Ws) (b : RdEE W' AE nE cE ee) => shape_any W' AW nW cW Ws AE nE cE ee a b
  have hcB := fun (W' : World) (a : RdI W' AW nW cW Ws) (b : RdEE W' AE nE cE ee) => rshape_any W' AW nW cW Ws AE nE cE ee a b
  rw [hv] at hcA hcB
  have HCA := hide hcA
  have HCB := hide hcB
  clear hv hcA hcB
  go_region_held3 (fun w' => From W w' ∧ w'.cell? ⟨w.heap.size, 0, none⟩ = some (.slice AW nW cW) ∧ w'.cell? ⟨w.heap.size, 1, none⟩ = some (.slice AE nE cE))
    ((go_split_ands; exact ⟨(by repeat (first | with_reducible assumption | with_reducible apply From.drew | with_reducible apply From.alloc)), ((From.out (by repeat (first | with_reducible assumption | with_reducible apply From.drew | with_reducible apply From.alloc))).cell (p := ⟨w.heap.size, 0, none⟩) hz).trans HC0.out, ((From.out (by repeat (first | with_reducible assumption | with_reducible apply From.drew | with_reducible apply From.alloc))).cell (p := ⟨w.heap.size, 1, none⟩) hz).trans HC1.out⟩))
    (first
    | (go_at_call 40; (with_reducible refine (HCA.out _ (by repeat (first | with_reducible assumption | with_reducible apply RdI.drew | ((with_reducible apply RdI.up); (with_reducible assumption)))) (by repeat (first | with_reducible assumption | with_reducible apply RdEE.drew | ((with_reducible apply RdEE.up); (with_reducible assumption))))).mono ?_); rintro e w' ⟨rfl, hb'⟩; go_split_ands; have hF' : From W w' := From.step (by repeat (first | with_reducible assumption | with_reducible apply From.drew | with_reducible apply From.alloc)) hb')
    | (go_at_call 40; (with_reducible refine (shape_nil_any _).mono ?_); rintro e w' ⟨rfl, hb'⟩; go_split_ands; have hF' : From W w' := From.step (by repeat (first | with_reducible assumption | with_reducible apply From.drew | with_reducible apply From.alloc)) hb')
    | (go_at_call 41; (with_reducible refine (HCB.out _ (by repeat (first | with_reducible assumption | with_reducible apply RdI.drew | ((with_reducible apply RdI.up); (with_reducible assumption)))) (by repeat (first | with_reducible assumption | with_reducible apply RdEE.drew | ((with_reducible apply RdEE.up); (with_reducible assumption))))).mono ?_); rintro e w' ⟨rfl, hb'⟩; go_split_ands; have hF' : From W w' := From.step (by repeat (first | with_reducible assumption | with_reducible apply From.drew | with_reducible apply From.alloc)) hb'))
  go_wp2
  go_ret
  exact ⟨by rfl, below_step (From.out (by repeat (first | with_reducible assumption | with_reducible apply From.drew | with_reducible apply From.alloc))) hS⟩
end Go.Proofs.Ytpfhohfcohkhnaa
