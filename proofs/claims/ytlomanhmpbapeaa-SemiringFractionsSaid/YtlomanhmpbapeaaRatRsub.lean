/- The walk of the reference's Sub and Cmp of rationals. -/
import Derived.Test.YtlomanhmpbapeaaRatRadd
namespace Go.Proofs.Ytlomanhmpbapeaa
open Go.RowKit


set_option maxHeartbeats 4000000 in
theorem rsub_q (s : Bool) (A : Option Addr) (n c : Nat) (B : Option Addr) (m d : Nat) (p : Rat) (K : Nat) (t : Bool) (A2 : Option Addr) (n2 c2 : Nat) (B2 : Option Addr) (m2 d2 : Nat) (q : Rat) (L : Nat) (w : World)
    (h : RawQ w s A n c B m d p K) (h' : RawQ w t A2 n2 c2 B2 m2 d2 q L) (hK1 : 1 ≤ K) (hL1 : 1 ≤ L) (hK : K ≤ 400) (hL : L ≤ 400) :
    Calls Try.prog 79 #[.agg #[.bool s, .slice A n c, .slice B m d], .agg #[.bool t, .slice A2 n2 c2, .slice B2 m2 d2]] w (RetQ (p - q) (K + L + 1) w) := by
  rw [Rat.sub_eq_add_neg]
  obtain ⟨W, hW, hS, q1, q2, q3⟩ := boxes3 w s A n c B m d t A2 n2 c2 B2 m2 d2
  have hr1 := h.below hS
  have hr2 := h'.below hS
  have HW := hide hW
  have Q1 := hide q1
  have Q2 := hide q2
  have Q3 := hide q3
  have hc1 := q1.cells
  have hc2 := q2.cells
  clear hW q1 q2 q3 h h'
  go_enter Try.func79, Try.ntmps79
  go_wp2_with fail
  rw [← HW.out]
  have hF := From.refl W
  go_region_held3 (fun w' => Only (w.heap.size + 1 + 1) W w' ∧ w'.cell? ⟨w.heap.size, 0, none⟩ = some (.bool s) ∧ w'.cell? ⟨w.heap.size, 1, none⟩ = some (.slice A n c) ∧ w'.cell? ⟨w.heap.size, 2, none⟩ = some (.slice B m d) ∧ w'.cell? ⟨w.heap.size + 1, 0, none⟩ = some (.bool t) ∧ w'.cell? ⟨w.heap.size + 1, 1, none⟩ = some (.slice A2 n2 c2) ∧ w'.cell? ⟨w.heap.size + 1, 2, none⟩ = some (.slice B2 m2 d2))
    ((go_split_ands; exact ⟨(by repeat (first | with_reducible assumption | with_reducible apply Only.set | with_reducible apply Only.drew | with_reducible apply Only.alloc | ((with_reducible apply From.only); (repeat (first | with_reducible assumption | with_reducible apply From.drew | with_reducible apply From.alloc))))), (BoxQ.only (g' := w.heap.size + 1 + 1) Q1.out (by repeat (first | with_reducible assumption | with_reducible apply Only.set | with_reducible apply Only.drew | with_reducible apply Only.alloc | ((with_reducible apply From.only); (repeat (first | with_reducible assumption | with_reducible apply From.drew | with_reducible apply From.alloc))))) (by omega)).cells.1, (BoxQ.only (g' := w.heap.size + 1 + 1) Q1.out (by repeat (first | with_reducible assumption | with_reducible apply Only.set | with_reducible apply Only.drew | with_reducible apply Only.alloc | ((with_reducible apply From.only); (repeat (first | with_reducible assumption | with_reducible apply From.drew | with_reducible apply From.alloc))))) (by omega)).cells.2.1, (BoxQ.only (g' := w.heap.size + 1 + 1) Q1.out (by repeat (first | with_reducible assumption | with_reducible apply Only.set | with_reducible apply Only.drew | with_reducible apply Only.alloc | ((with_reducible apply From.only); (repeat (first | with_reducible assumption | with_reducible apply From.drew | with_reducible apply From.alloc))))) (by omega)).cells.2.2, (BoxQ.only (g' := w.heap.size + 1 + 1) Q2.out (by repeat (first | with_reducible assumption | with_reducible apply Only.set | with_reducible apply Only.drew | with_reducible apply Only.alloc | ((with_reducible apply From.only); (repeat (first | with_reducible assumption | with_reducible apply From.drew | with_reducible apply From.alloc))))) (by omega)).cells.1, (BoxQ.only (g' := w.heap.size + 1 + 1) Q2.out (by repeat (first | with_reducible assumption | with_reducible apply Only.set | with_reducible apply Only.drew | with_reducible apply Only.alloc | ((with_reducible apply From.only); (repeat (first | with_reducible assumption | with_reducible apply From.drew | with_reducible apply From.alloc))))) (by omega)).cells.2.1, (BoxQ.only (g' := w.heap.size + 1 + 1) Q2.out (by repeat (first | with_reducible assumption | with_reducible apply Only.set | with_reducible apply Only.drew | with_reducible apply Only.alloc | ((with_reducible apply From.only); (repeat (first | with_reducible assumption | with_reducible apply From.drew | with_reducible apply From.alloc))))) (by omega)).cells.2.2⟩))
    (first
    | (go_at_call 30; (with_reducible refine (rneg_q _ _ _ _ _ _ _ _ L _ (by repeat (first | with_reducible assumption | with_reducible apply RawQ.drew | with_reducible apply RawQ.upAlloc | ((with_reducible apply RawQ.up); (with_reducible assumption)))) hL1 (by omega)).mono ?_); rintro e w' ⟨A', n', c', B', m', d', rfl, hcan, hb'⟩; go_split_ands; have hF' : From W w' := From.step (by repeat (first | with_reducible assumption | with_reducible apply From.drew | with_reducible apply From.alloc)) hb')
    | (go_at_call 37; (with_reducible refine (radd_q _ _ _ _ _ _ _ _ K _ _ _ _ _ _ _ _ L _ (by repeat (first | with_reducible assumption | with_reducible apply RawQ.drew | with_reducible apply RawQ.upAlloc | ((with_reducible apply RawQ.up); (with_reducible assumption)))) (CanQ.raw (by repeat (first | with_reducible assumption | with_reducible apply CanQ.drew | with_reducible apply CanQ.upAlloc | ((with_reducible apply CanQ.up); (with_reducible assumption))))) hK1 hL1 (by omega) (by omega)).mono ?_); rintro e w' ⟨A', n', c', B', m', d', rfl, hcan, hb'⟩; go_split_ands; have hF' : From W w' := From.step (by repeat (first | with_reducible assumption | with_reducible apply From.drew | with_reducible apply From.alloc)) hb'; have hno := (Q3.out.later hF').noNum; have hcg := (Q3.out.later hF').cells; have hfg := (Q3.out.later hF').free))
  go_wp2
  exact bodyPost_ret (v := .agg #[.bool (qneg (p + -q)), .slice A' n' c', .slice B' m' d']) (by simp [results, Try.results79, go_sem, hcg]) rfl ⟨A', n', c', B', m', d', rfl, (by repeat (first | with_reducible assumption | with_reducible apply CanQ.drew | ((with_reducible apply CanQ.store3); (focus assumption)))), Only.bel (g := w.heap.size + 1 + 1) (by repeat (first | with_reducible assumption | with_reducible apply Only.set | with_reducible apply Only.drew | with_reducible apply Only.alloc | ((with_reducible apply From.only); (repeat (first | with_reducible assumption | with_reducible apply From.drew | with_reducible apply From.alloc))))) hS hS.size (by omega)⟩

set_option maxHeartbeats 1000000 in
theorem rcmp_q (s : Bool) (A : Option Addr) (n c : Nat) (B : Option Addr) (m d : Nat) (p : Rat) (K : Nat) (t : Bool) (A2 : Option Addr) (n2 c2 : Nat) (B2 : Option Addr) (m2 d2 : Nat) (q : Rat) (L : Nat) (w : World)
    (h : RawQ w s A n c B m d p K) (h' : RawQ w t A2 n2 c2 B2 m2 d2 q L) (hK1 : 1 ≤ K) (hL1 : 1 ≤ L) (hK : K ≤ 400) (hL : L ≤ 400) :
    Calls Try.prog 55 #[.agg #[.bool s, .slice A n c, .slice B m d], .agg #[.bool t, .slice A2 n2 c2, .slice B2 m2 d2]] w (Makes (.int .i64 (cmpQ p q)) w) := by
  obtain ⟨W, hW, hS, q1, q2⟩ := boxes2 w s A n c B m d t A2 n2 c2 B2 m2 d2
  have hr1 := h.below hS
  have hr2 := h'.below hS
  have HW := hide hW
  clear hW
  go_enter Try.func55, Try.ntmps55
  go_wp2_with fail
  rw [← HW.out]
  refine (rsub_q _ _ _ _ _ _ _ _ K _ _ _ _ _ _ _ _ L _ hr1 hr2 hK1 hL1 hK hL).mono ?_
  rintro e w1 ⟨A', n', c', B', m', d', rfl, hcan, hb1⟩
  go_wp2_with fail
  refine (rsign_q _ _ _ _ _ _ _ _ (K + L + 1) _ hcan.raw (by omega) (by omega)).mono ?_
  rintro e w2 ⟨rfl, hb2⟩
  go_wp2
  go_ret
  exact ⟨rfl, below_step hb2 (below_step hb1 hS)⟩
end Go.Proofs.Ytlomanhmpbapeaa
