/- The rational numbers as a semiring: the methods' contracts. -/
import Derived.Test.YtlomanhmpbapeaaRatDiv
import Derived.Test.YtlomanhmpbapeaaRatRmul
import Derived.Test.YtlomanhmpbapeaaRatRsub
import Derived.Test.YtlomanhmpbapeaaRatOf
namespace Go.Proofs.Ytlomanhmpbapeaa
open Go.RowKit

section
variable {w : World} {s t : Bool} {A B A2 B2 : Option Addr} {n c m d n2 c2 m2 d2 K L M : Nat} {p q : Rat}
theorem rsame_q (h : CanQ w A n c B m d p K) (h' : CanQ w A2 n2 c2 B2 m2 d2 q L) :
    Calls Try.prog 49 #[.agg #[.bool (qneg p), .slice A n c, .slice B m d], .agg #[.bool (qneg q), .slice A2 n2 c2, .slice B2 m2 d2]] w (Makes (.bool (decide (p = q))) w) := by
  have := rsameq_any (qneg p) _ _ _ _ _ _ _ _ (qneg q) _ _ _ _ _ _ _ _ w h.num h.den h'.num h'.den
  rwa [can_eq] at this
theorem rsame_q_yes (h : CanQ w A n c B m d p K) (h' : CanQ w A2 n2 c2 B2 m2 d2 q L) (e : p = q) :
    Calls Try.prog 49 #[.agg #[.bool (qneg p), .slice A n c, .slice B m d], .agg #[.bool (qneg q), .slice A2 n2 c2, .slice B2 m2 d2]] w (Makes (.bool true) w) := by
  have := rsame_q h h'
  rwa [decide_eq_true e] at this
theorem frac_box (w : World) (o : Obj) : ∃ W, W = (w.alloc o).alloc (.cells #[.bool false, .slice none 0 0, .slice none 0 0] 25) ∧ Below w.heap.size w W ∧ BoxQ W (w.heap.size + 1) false none 0 0 none 0 0 := by
  refine ⟨_, rfl, ((Below.refl _ _).alloc (Nat.le_refl _) _).alloc (by simp) _, ?_⟩
  have := BoxQ.new (w.alloc o) false none 0 0 none 0 0
  simpa using this
theorem frac_boxes (w : World) (o : Obj) (s : Bool) (A : Option Addr) (n c : Nat) (B : Option Addr) (m d : Nat) (t : Bool) (A2 : Option Addr) (n2 c2 : Nat) (B2 : Option Addr) (m2 d2 : Nat) :
    ∃ W, W = (((w.alloc o).alloc (.cells #[.bool s, .slice A n c, .slice B m d] 25)).alloc (.cells #[.bool t, .slice A2 n2 c2, .slice B2 m2 d2] 25)).alloc (.cells #[.bool false, .slice none 0 0, .slice none 0 0] 25) ∧
      Below w.heap.size w W ∧ BoxQ W (w.heap.size + 1) s A n c B m d ∧ BoxQ W (w.heap.size + 1 + 1) t A2 n2 c2 B2 m2 d2 ∧ BoxQ W (w.heap.size + 1 + 1 + 1) false none 0 0 none 0 0 ∧ W.heap.size = w.heap.size + 1 + 1 + 1 + 1 := by
  obtain ⟨W, hW, hS, q1, q2, q3⟩ := boxes3 (w.alloc o) s A n c B m d t A2 n2 c2 B2 m2 d2
  have e : (w.alloc o).heap.size = w.heap.size + 1 := by simp
  rw [e] at q1 q2 q3
  exact ⟨W, hW, below_step hS (below_alloc w o), q1, q2, q3, by rw [hW]; simp⟩
set_option maxHeartbeats 1000000 in
theorem frac_zero (w : World) : Calls Try.prog 50 #[.agg #[]] w (RetQ 0 1 w) := by
  obtain ⟨W, hW, hS, q3⟩ := frac_box w (.cells #[] 57)
  have HW := hide hW
  clear hW
  go_enter Try.func50, Try.ntmps50
  go_wp2_with fail
  rw [← HW.out]
  refine (qadd_none _).mono ?_
  rintro e w1 ⟨A', n', c', B', m', d', rfl, hcan, hb1⟩
  have q31 := q3.below hb1
  have hcg := q31.cells
  have hfg := q31.free
  go_wp2
  exact bodyPost_ret (v := .agg #[.bool (qneg 0), .slice A' n' c', .slice B' m' d']) (by simp [results, Try.results50, go_sem, hcg]) rfl ⟨A', n', c', B', m', d', rfl, hcan.store3 q31.noNum, below3 (below_step hb1 hS) (by omega) _ _ _⟩
set_option maxHeartbeats 1000000 in
theorem frac_one (w : World) : Calls Try.prog 51 #[.agg #[]] w (RetQ 1 1 w) := by
  obtain ⟨W, hW, hS, q3⟩ := frac_box w (.cells #[] 57)
  have HW := hide hW
  clear hW
  go_enter Try.func51, Try.ntmps51
  go_wp2_with fail
  rw [← HW.out]
  refine (qmul_none _).mono ?_
  rintro e w1 ⟨A', n', c', B', m', d', rfl, hcan, hb1⟩
  have q31 := q3.below hb1
  have hcg := q31.cells
  have hfg := q31.free
  go_wp2
  exact bodyPost_ret (v := .agg #[.bool (qneg 1), .slice A' n' c', .slice B' m' d']) (by simp [results, Try.results51, go_sem, hcg]) rfl ⟨A', n', c', B', m', d', rfl, hcan.store3 q31.noNum, below3 (below_step hb1 hS) (by omega) _ _ _⟩
theorem frac_zero_eq (w : World) {z : Rat} (h : z = 0) : Calls Try.prog 50 #[.agg #[]] w (RetQ z 1 w) := by rw [h]; exact frac_zero w
theorem frac_one_eq (w : World) {z : Rat} (h : z = 1) : Calls Try.prog 51 #[.agg #[]] w (RetQ z 1 w) := by rw [h]; exact frac_one w
set_option maxHeartbeats 2000000 in
theorem frac_add (h : RawQ w s A n c B m d p K) (h' : RawQ w t A2 n2 c2 B2 m2 d2 q L) (M : Nat) (hK : K ≤ M) (hL : L ≤ M) (hM1 : 1 ≤ M) (hM : M ≤ 490) :
    Calls Try.prog 52 #[.agg #[], .agg #[.bool s, .slice A n c, .slice B m d], .agg #[.bool t, .slice A2 n2 c2, .slice B2 m2 d2]] w (RetQ (p + q) (2 * M + 3) w) := by
  obtain ⟨W, hW, hS, q1, q2, q3, hz⟩ := frac_boxes w (.cells #[] 57) s A n c B m d t A2 n2 c2 B2 m2 d2
  have hr1 := h.below hS
  have hr2 := h'.below hS
  have HW := hide hW
  have hc1 := q1.cells
  have hc2 := q2.cells
  have HZ := hide hz
  clear hW hz h h'
  go_enter Try.func52, Try.ntmps52
  go_wp2_with fail
  rw [← HW.out]
  refine (qadd_pair (ql_two (M := M) HZ.out.symm hr1 hr2 hK hL) hM1 hM).mono ?_
  rintro e w1 ⟨A', n', c', B', m', d', rfl, hcan, hb1⟩
  have hb0 := below_step hb1 (below_alloc W (.cells #[.bool s, .slice A n c, .slice B m d, .bool t, .slice A2 n2 c2, .slice B2 m2 d2] 25))
  have q31 := q3.below hb0
  clear hc1 hc2
  have hcg := q31.cells
  have hfg := q31.free
  go_wp2
  exact bodyPost_ret (v := .agg #[.bool (qneg (p + q)), .slice A' n' c', .slice B' m' d']) (by simp [results, Try.results52, go_sem, hcg]) rfl ⟨A', n', c', B', m', d', rfl, hcan.store3 q31.noNum, below3 (below_step hb0 hS) (by omega) _ _ _⟩
set_option maxHeartbeats 2000000 in
theorem frac_mul (h : RawQ w s A n c B m d p K) (h' : RawQ w t A2 n2 c2 B2 m2 d2 q L) (M : Nat) (hK : K ≤ M) (hL : L ≤ M) (hM1 : 1 ≤ M) (hM : M ≤ 490) :
    Calls Try.prog 53 #[.agg #[], .agg #[.bool s, .slice A n c, .slice B m d], .agg #[.bool t, .slice A2 n2 c2, .slice B2 m2 d2]] w (RetQ (p * q) (2 * M + 1) w) := by
  obtain ⟨W, hW, hS, q1, q2, q3, hz⟩ := frac_boxes w (.cells #[] 57) s A n c B m d t A2 n2 c2 B2 m2 d2
  have hr1 := h.below hS
  have hr2 := h'.below hS
  have HW := hide hW
  have hc1 := q1.cells
  have hc2 := q2.cells
  have HZ := hide hz
  clear hW hz h h'
  go_enter Try.func53, Try.ntmps53
  go_wp2_with fail
  rw [← HW.out]
  refine (qmul_pair (ql_two (M := M) HZ.out.symm hr1 hr2 hK hL) hM1 hM).mono ?_
  rintro e w1 ⟨A', n', c', B', m', d', rfl, hcan, hb1⟩
  have hb0 := below_step hb1 (below_alloc W (.cells #[.bool s, .slice A n c, .slice B m d, .bool t, .slice A2 n2 c2, .slice B2 m2 d2] 25))
  have q31 := q3.below hb0
  clear hc1 hc2
  have hcg := q31.cells
  have hfg := q31.free
  go_wp2
  exact bodyPost_ret (v := .agg #[.bool (qneg (p * q)), .slice A' n' c', .slice B' m' d']) (by simp [results, Try.results53, go_sem, hcg]) rfl ⟨A', n', c', B', m', d', rfl, hcan.store3 q31.noNum, below3 (below_step hb0 hS) (by omega) _ _ _⟩
set_option maxHeartbeats 2000000 in
theorem frac_same (h : RawQ w s A n c B m d p K) (h' : RawQ w t A2 n2 c2 B2 m2 d2 q L) (hK1 : 1 ≤ K) (hL1 : 1 ≤ L) (hK : K ≤ 1000) (hL : L ≤ 1000) :
    Calls Try.prog 54 #[.agg #[], .agg #[.bool s, .slice A n c, .slice B m d], .agg #[.bool t, .slice A2 n2 c2, .slice B2 m2 d2]] w (Makes (.bool (decide (p = q))) w) := by
  have hB := below_alloc w (.cells #[] 57)
  obtain ⟨W, hW, hS, q1, q2⟩ := boxes2 (w.alloc (.cells #[] 57)) s A n c B m d t A2 n2 c2 B2 m2 d2
  have hS2 := below_step hS hB
  have hr1 := h.below hS2
  have hr2 := h'.below hS2
  have HW := hide hW
  have HQ := hide (cmpQ_beq p q)
  clear hW
  go_enter Try.func54, Try.ntmps54
  go_wp2_with fail
  rw [← HW.out]
  refine (qcmp_any _ _ _ _ _ _ _ _ K _ _ _ _ _ _ _ _ L _ hr1 hr2 hK1 hL1 hK hL).mono ?_
  rintro e w1 ⟨rfl, hb1⟩
  generalize cmpQ p q = x at *
  go_wp2
  go_ret
  rw [← HQ.out]
  exact ⟨rfl, below_step hb1 hS2⟩
theorem frac_same_yes (h : RawQ w s A n c B m d p K) (h' : RawQ w t A2 n2 c2 B2 m2 d2 q L) (hK1 : 1 ≤ K) (hL1 : 1 ≤ L) (hK : K ≤ 1000) (hL : L ≤ 1000) (e : p = q) :
    Calls Try.prog 54 #[.agg #[], .agg #[.bool s, .slice A n c, .slice B m d], .agg #[.bool t, .slice A2 n2 c2, .slice B2 m2 d2]] w (Makes (.bool true) w) := by
  have := frac_same h h' hK1 hL1 hK hL
  rwa [decide_eq_true e] at this
end
end Go.Proofs.Ytlomanhmpbapeaa
