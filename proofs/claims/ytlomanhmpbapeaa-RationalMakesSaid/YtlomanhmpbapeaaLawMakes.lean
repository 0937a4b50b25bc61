/- The walk of the law RationalMakes. -/
import Derived.Test.YtlomanhmpbapeaaRatOf
import Derived.Test.YtlomanhmpbapeaaLawRatios
namespace Go.Proofs.Ytlomanhmpbapeaa
open Go.RowKit

set_option maxHeartbeats 4000000 in
theorem law_RationalMakes (w : World) (x : Int) (hx : -9223372036854775808 ≤ x ∧ x ≤ 9223372036854775807) (y : Int) (hy : -9223372036854775808 ≤ y ∧ y ≤ 9223372036854775807) :
    Calls Try.prog 4 #[.int .i64 x, .int .i64 y] w (Makes (.bool true) w) := by
  by_cases h0 : y = 0
  · subst h0
    clear hx hy
    go_enter Try.func4, Try.ntmps4
    go_wp2_with fail
    refine (qof_zero x _).mono ?_
    rintro e w1 ⟨rfl, hb1⟩
    go_wp2_with fail
    refine (nil_nil _).mono ?_
    rintro e w2 ⟨rfl, hb2⟩
    go_wp2
    go_ret
    exact ⟨rfl, below_step hb2 (below_step (below_alloc _ _) hb1)⟩
  · have HX := hide hx
    have HY := hide hy
    have hye : (y == 0) = false := by simp; exact h0
    have hcall := qof_ok x y w hx hy h0
    clear hx hy h0
    go_enter Try.func4, Try.ntmps4
    go_wp2_with fail
    refine hcall.mono ?_
    rintro e w1 ⟨A1, n1, c1, B1, m1, d1, rfl, hcan1, hb1⟩
    clear hcall
    obtain ⟨W, hW, hSW, q5⟩ := box1 w1 (qneg (ofV x y)) A1 n1 c1 B1 m1 d1
    have HW := hide hW
    have hcanW := hcan1.below hSW
    have Q5 := hide q5
    have hF := From.refl W
    have hc5 := q5.cells
    have hBc := below_step hSW hb1
    clear hcan1 q5 hW
    go_wp2_with fail
    rw [← HW.out]
    go_region_held3 (fun w' => From W w' ∧ w'.cell? ⟨w1.heap.size, 0, none⟩ = some (.bool (qneg (ofV x y))) ∧ w'.cell? ⟨w1.heap.size, 1, none⟩ = some (.slice A1 n1 c1) ∧ w'.cell? ⟨w1.heap.size, 2, none⟩ = some (.slice B1 m1 d1))
      ((go_split_ands; exact ⟨(by repeat (first | with_reducible assumption | with_reducible apply From.drew | with_reducible apply From.alloc)), (Q5.out.later (by repeat (first | with_reducible assumption | with_reducible apply From.drew | with_reducible apply From.alloc))).cells.1, (Q5.out.later (by repeat (first | with_reducible assumption | with_reducible apply From.drew | with_reducible apply From.alloc))).cells.2.1, (Q5.out.later (by repeat (first | with_reducible assumption | with_reducible apply From.drew | with_reducible apply From.alloc))).cells.2.2⟩))
      (first
      | (go_at_call 22; refine (rof_q _ _ _ HX.out HY.out).mono ?_; rintro e w' ⟨A', n', c', B', m', d', rfl, h', hb'⟩; go_split_ands; have hF' : From W w' := From.step (by repeat (first | with_reducible assumption | with_reducible apply From.drew | with_reducible apply From.alloc)) hb')
      | (go_at_call 20; refine (same_q_yes (by repeat (first | with_reducible assumption | with_reducible apply CanQ.drew | with_reducible apply CanQ.upAlloc | ((with_reducible apply CanQ.up); (with_reducible assumption)))) (by repeat (first | with_reducible assumption | with_reducible apply CanQ.drew | with_reducible apply CanQ.upAlloc | ((with_reducible apply CanQ.up); (with_reducible assumption)))) rfl).mono ?_; rintro e w' ⟨rfl, hb'⟩; go_split_ands; have hF' : From W w' := From.step (by repeat (first | with_reducible assumption | with_reducible apply From.drew | with_reducible apply From.alloc)) hb'))
    go_wp2
    go_ret
    exact ⟨by rfl, below_step (From.out (by repeat (first | with_reducible assumption | with_reducible apply From.drew | with_reducible apply From.alloc))) hBc⟩
end Go.Proofs.Ytlomanhmpbapeaa
