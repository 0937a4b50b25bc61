/- The walks of rational.Sub and Cmp. -/
import Derived.Test.YtlomanhmpbapeaaRatSum
namespace Go.Proofs.Ytlomanhmpbapeaa
open Go.RowKit

theorem boxes3 (w : World) (s : Bool) (A : Option Addr) (n c : Nat) (B : Option Addr) (m d : Nat) (t : Bool) (A2 : Option Addr) (n2 c2 : Nat) (B2 : Option Addr) (m2 d2 : Nat) :
    ∃ W, W = ((w.alloc (.cells #[.bool s, .slice A n c, .slice B m d] 25)).alloc (.cells #[.bool t, .slice A2 n2 c2, .slice B2 m2 d2] 25)).alloc (.cells #[.bool false, .slice none 0 0, .slice none 0 0] 25) ∧
      Below w.heap.size w W ∧ BoxQ W w.heap.size s A n c B m d ∧ BoxQ W (w.heap.size + 1) t A2 n2 c2 B2 m2 d2 ∧ BoxQ W (w.heap.size + 1 + 1) false none 0 0 none 0 0 := by
  refine ⟨_, rfl, (((Below.refl _ _).alloc (Nat.le_refl _) _).alloc (by simp) _).alloc (by simp; omega) _, ((BoxQ.new w _ _ _ _ _ _ _).below (below_alloc _ _)).below (below_alloc _ _), ?_, ?_⟩
  · have := ((BoxQ.new (w.alloc (.cells #[.bool s, .slice A n c, .slice B m d] 25)) t A2 n2 c2 B2 m2 d2).below (below_alloc _ (.cells #[.bool false, .slice none 0 0, .slice none 0 0] 25)))
    simpa using this
  · have := BoxQ.new ((w.alloc (.cells #[.bool s, .slice A n c, .slice B m d] 25)).alloc (.cells #[.bool t, .slice A2 n2 c2, .slice B2 m2 d2] 25)) false none 0 0 none 0 0
    simpa using this

set_option maxHeartbeats 4000000 in
theorem qsub_any (s : Bool) (A : Option Addr) (n c : Nat) (B : Option Addr) (m d : Nat) (p : Rat) (K : Nat) (t : Bool) (A2 : Option Addr) (n2 c2 : Nat) (B2 : Option Addr) (m2 d2 : Nat) (q : Rat) (L : Nat) (w : World)
    (h : RawQ w s A n c B m d p K) (h' : RawQ w t A2 n2 c2 B2 m2 d2 q L) (hK1 : 1 ≤ K) (hL1 : 1 ≤ L) (hK : K ≤ 1000) (hL : L ≤ 1000) :
    Calls Try.prog 42 #[.agg #[.bool s, .slice A n c, .slice B m d], .agg #[.bool t, .slice A2 n2 c2, .slice B2 m2 d2]] w (RetQ (p - q) (K + L + 1) w) := by
  rw [Rat.sub_eq_add_neg]
  obtain ⟨W, hW, hS, q1, q2, q3⟩ := boxes3 w s A n c B m d t A2 n2 c2 B2 m2 d2
  have hr1 := h.below hS
  have hr2 := h'.below hS
  have HW := hide hW
  have Q1 := hide q1
  have Q2 := hide q2
  have Q3 := hide q3
  have hc1 := q1.cells
  have hc2 := q2.cells
  clear hW q1 q2 q3 h h'
  go_enter Try.func42, Try.ntmps42
  go_wp2_with fail
  rw [← HW.out]
  have hF := From.refl W
  go_region_held3 (fun w' => Only (w.heap.size + 1 + 1) W w' ∧ w'.cell? ⟨w.heap.size, 0, none⟩ = some (.bool s) ∧ w'.cell? ⟨w.heap.size, 1, none⟩ = some (.slice A n c) ∧ w'.cell? ⟨w.heap.size, 2, none⟩ = some (.slice B m d) ∧ w'.cell? ⟨w.heap.size + 1, 0, none⟩ = some (.bool t) ∧ w'.cell? ⟨w.heap.size + 1, 1, none⟩ = some (.slice A2 n2 c2) ∧ w'.cell? ⟨w.heap.size + 1, 2, none⟩ = some (.slice B2 m2 d2))
    ((go_split_ands; exact ⟨(by repeat (first | with_reducible assumption | with_reducible apply Only.set | with_reducible apply Only.drew | with_reducible apply Only.alloc | ((with_reducible apply From.only); (repeat (first | with_reducible assumption | with_reducible apply From.drew | with_reducible apply From.alloc))))), (BoxQ.only (g' := w.heap.size + 1 + 1) Q1.out (by repeat (first | with_reducible assumption | with_reducible apply Only.set | with_reducible apply Only.drew | with_reducible apply Only.alloc | ((with_reducible apply From.only); (repeat (first | with_reducible assumption | with_reducible apply From.drew | with_reducible apply From.alloc))))) (by omega)).cells.1, (BoxQ.only (g' := w.heap.size + 1 + 1) Q1.out (by repeat (first | with_reducible assumption | with_reducible apply Only.set | with_reducible apply Only.drew | with_reducible apply Only.alloc | ((with_reducible apply From.only); (repeat (first | with_reducible assumption | with_reducible apply From.drew | with_reducible apply From.alloc))))) (by omega)).cells.2.1, (BoxQ.only (g' := w.heap.size + 1 + 1) Q1.out (by repeat (first | with_reducible assumption | with_reducible apply Only.set | with_reducible apply Only.drew | with_reducible apply Only.alloc | ((with_reducible apply From.only); (repeat (first | with_reducible assumption | with_reducible apply From.drew | with_reducible apply From.alloc))))) (by omega)).cells.2.2, (BoxQ.only (g' := w.heap.size + 1 + 1) Q2.out (by repeat (first | with_reducible assumption | with_reducible apply Only.set | with_reducible apply Only.drew | with_reducible apply Only.alloc | ((with_reducible apply From.only); (repeat (first | with_reducible assumption | with_reducible apply From.drew | with_reducible apply From.alloc))))) (by omega)).cells.1, (BoxQ.only (g' := w.heap.size + 1 + 1) Q2.out (by repeat (first | with_reducible assumption | with_reducible apply Only.set | with_reducible apply Only.drew | with_reducible apply Only.alloc | ((with_reducible apply From.only); (repeat (first | with_reducible assumption | with_reducible apply From.drew | with_reducible apply From.alloc))))) (by omega)).cells.2.1, (BoxQ.only (g' := w.heap.size + 1 + 1) Q2.out (by repeat (first | with_reducible assumption | with_reducible apply Only.set | with_reducible apply Only.drew | with_reducible apply Only.alloc | ((with_reducible apply From.only); (repeat (first | with_reducible assumption | with_reducible apply From.drew | with_reducible apply From.alloc))))) (by omega)).cells.2.2⟩))
    (first
    | (go_at_call 24; (with_reducible refine (trim_q _ _ _ _ _ _ _ _ K _ (by repeat (first | with_reducible assumption | with_reducible apply RawQ.drew | with_reducible apply RawQ.upAlloc | ((with_reducible apply RawQ.up); (with_reducible assumption)))) hK1 (by omega)).mono ?_); rintro e w' ⟨A', n', c', B', m', d', rfl, hcan, hb'⟩; go_split_ands; have hF' : From W w' := From.step (by repeat (first | with_reducible assumption | with_reducible apply From.drew | with_reducible apply From.alloc)) hb')
    | (go_at_call 29; (with_reducible refine (neg_q _ _ _ _ _ _ _ _ L _ (by repeat (first | with_reducible assumption | with_reducible apply RawQ.drew | with_reducible apply RawQ.upAlloc | ((with_reducible apply RawQ.up); (with_reducible assumption)))) hL1 (by omega)).mono ?_); rintro e w' ⟨A', n', c', B', m', d', rfl, hcan, hb'⟩; go_split_ands; have hF' : From W w' := From.step (by repeat (first | with_reducible assumption | with_reducible apply From.drew | with_reducible apply From.alloc)) hb')
    | (go_at_call 69; (with_reducible refine (qplus_any _ _ _ _ _ _ _ _ K _ _ _ _ _ _ _ L (by repeat (first | with_reducible assumption | with_reducible apply CanQ.drew | with_reducible apply CanQ.upAlloc | ((with_reducible apply CanQ.up); (with_reducible assumption)))) (by repeat (first | with_reducible assumption | with_reducible apply CanQ.drew | with_reducible apply CanQ.upAlloc | ((with_reducible apply CanQ.up); (with_reducible assumption)))) (by omega) (by omega)).mono ?_); rintro e w' ⟨A', n', c', B', m', d', rfl, hcan, hb'⟩; go_split_ands; have hF' : From W w' := From.step (by repeat (first | with_reducible assumption | with_reducible apply From.drew | with_reducible apply From.alloc)) hb'; have hno := (Q3.out.later hF').noNum; have hcg := (Q3.out.later hF').cells; have hfg := (Q3.out.later hF').free))
  go_wp2
  exact bodyPost_ret (v := .agg #[.bool (qneg (p + -q)), .slice A' n' c', .slice B' m' d']) (by simp [results, Try.results42, go_sem, hcg]) rfl ⟨A', n', c', B', m', d', rfl, (by repeat (first | with_reducible assumption | with_reducible apply CanQ.drew | ((with_reducible apply CanQ.store3); (focus assumption)))), Only.bel (g := w.heap.size + 1 + 1) (by repeat (first | with_reducible assumption | with_reducible apply Only.set | with_reducible apply Only.drew | with_reducible apply Only.alloc | ((with_reducible apply From.only); (repeat (first | with_reducible assumption | with_reducible apply From.drew | with_reducible apply From.alloc))))) hS hS.size (by omega)⟩

set_option maxHeartbeats 1000000 in
theorem qcmp_any (s : Bool) (A : Option Addr) (n c : Nat) (B : Option Addr) (m d : Nat) (p : Rat) (K : Nat) (t : Bool) (A2 : Option Addr) (n2 c2 : Nat) (B2 : Option Addr) (m2 d2 : Nat) (q : Rat) (L : Nat) (w : World)
    (h : RawQ w s A n c B m d p K) (h' : RawQ w t A2 n2 c2 B2 m2 d2 q L) (hK1 : 1 ≤ K) (hL1 : 1 ≤ L) (hK : K ≤ 1000) (hL : L ≤ 1000) :
    Calls Try.prog 41 #[.agg #[.bool s, .slice A n c, .slice B m d], .agg #[.bool t, .slice A2 n2 c2, .slice B2 m2 d2]] w (Makes (.int .i64 (cmpQ p q)) w) := by
  obtain ⟨W, hW, hS, q1, q2⟩ := boxes2 w s A n c B m d t A2 n2 c2 B2 m2 d2
  have hr1 := h.below hS
  have hr2 := h'.below hS
  have HW := hide hW
  clear hW
  go_enter Try.func41, Try.ntmps41
  go_wp2_with fail
  rw [← HW.out]
  refine (qsub_any _ _ _ _ _ _ _ _ K _ _ _ _ _ _ _ _ L _ hr1 hr2 hK1 hL1 hK hL).mono ?_
  rintro e w1 ⟨A', n', c', B', m', d', rfl, hcan, hb1⟩
  go_wp2_with fail
  refine (sign_q _ _ _ _ _ _ _ _ (K + L + 1) _ hcan.raw (by omega)).mono ?_
  rintro e w2 ⟨rfl, hb2⟩
  go_wp2
  go_ret
  exact ⟨rfl, below_step hb2 (below_step hb1 hS)⟩
end Go.Proofs.Ytlomanhmpbapeaa
