/- The walk of the reference's Mul of rationals. -/
import Derived.Test.YtlomanhmpbapeaaRatSub
namespace Go.Proofs.Ytlomanhmpbapeaa
open Go.RowKit
theorem rmul_flag (p q : Rat) : ratOf (!(qneg p == qneg q)) (p.num.natAbs * q.num.natAbs) (p.den * q.den) = p * q := by rw [show (!(qneg p == qneg q)) = (qneg p != qneg q) from rfl, ratOf_mul, ratOf_self, ratOf_self]


set_option maxHeartbeats 8000000 in
theorem rmul_q (s : Bool) (A : Option Addr) (n c : Nat) (B : Option Addr) (m d : Nat) (p : Rat) (K : Nat) (t : Bool) (A2 : Option Addr) (n2 c2 : Nat) (B2 : Option Addr) (m2 d2 : Nat) (q : Rat) (L : Nat) (w : World)
    (h : RawQ w s A n c B m d p K) (h' : RawQ w t A2 n2 c2 B2 m2 d2 q L) (hK1 : 1 ≤ K) (hL1 : 1 ≤ L) (hK : K ≤ 400) (hL : L ≤ 400) :
    Calls Try.prog 38 #[.agg #[.bool s, .slice A n c, .slice B m d], .agg #[.bool t, .slice A2 n2 c2, .slice B2 m2 d2]] w (RetQ (p * q) (K + L) w) := by
  obtain ⟨W0, hW0, hS, q1, q2, q3⟩ := boxes3 w s A n c B m d t A2 n2 c2 B2 m2 d2
  have hr1 := h.below hS
  have hr2 := h'.below hS
  have HW := hide hW0
  clear hW0 h h'
  go_enter Try.func38, Try.ntmps38
  go_wp2_with fail
  rw [← HW.out]
  refine (rtrim_q _ _ _ _ _ _ _ _ K _ hr1 hK1 (by omega)).mono ?_
  rintro e w1 ⟨A3, n3, c3, B3, m3, d3, rfl, hcan1, hb1⟩
  have q11 := q1.below hb1
  have q21 := q2.below hb1
  have q31 := q3.below hb1
  have hcg := q11.cells
  have hfg := q11.free
  have hc2 := q21.cells
  have ho := only3 w1 w.heap.size (.bool (qneg p)) (.slice A3 n3 c3) (.slice B3 m3 d3)
  have hcan1s := hcan1.far ho q11.noNum
  have hr2s := (hr2.below hb1).far ho q11.noNum
  have Q1s := hide (q11.store3 (qneg p) A3 n3 c3 B3 m3 d3)
  have Q2s := hide (BoxQ.only (g' := w.heap.size) q21 ho (by omega))
  have Q3s := hide (BoxQ.only (g' := w.heap.size) q31 ho (by omega))
  have hB1 := below3 (below_step hb1 hS) (Nat.le_refl _) (.bool (qneg p)) (.slice A3 n3 c3) (.slice B3 m3 d3)
  clear q1 q2 q3 hr1 hr2 hcan1 ho q11 q21 q31 hS hb1
  go_wp2_with fail
  obtain ⟨W1, hW1⟩ : ∃ W1, W1 = ((w1.setCell ⟨w.heap.size, 0, none⟩ (.bool (qneg p))).setCell ⟨w.heap.size, 1, none⟩ (.slice A3 n3 c3)).setCell ⟨w.heap.size, 2, none⟩ (.slice B3 m3 d3) := ⟨_, rfl⟩
  rw [← hW1] at hcan1s hr2s Q1s Q2s Q3s hB1 ⊢
  clear hW1 hcg hfg hc2
  refine (rtrim_q _ _ _ _ _ _ _ _ L _ hr2s hL1 (by omega)).mono ?_
  rintro e w2 ⟨A4, n4, c4, B4, m4, d4, rfl, hcan2, hb2⟩
  have q12 := Q1s.out.below hb2
  have q22 := Q2s.out.below hb2
  have q32 := Q3s.out.below hb2
  have hcg := q22.cells
  have hfg := q22.free
  have hc1 := q12.cells
  have ho := only3 w2 (w.heap.size + 1) (.bool (qneg q)) (.slice A4 n4 c4) (.slice B4 m4 d4)
  have hcan2s := hcan2.far ho q22.noNum
  have hcan3s := (hcan1s.below hb2).far ho q22.noNum
  have q1s := BoxQ.only (g' := w.heap.size + 1) q12 ho (by omega)
  have q2s := q22.store3 (qneg q) A4 n4 c4 B4 m4 d4
  have q3s := BoxQ.only (g' := w.heap.size + 1) q32 ho (by omega)
  have hBs := below3 (below_step hb2 hB1) (Nat.le_add_right w.heap.size 1) (.bool (qneg q)) (.slice A4 n4 c4) (.slice B4 m4 d4)
  go_wp2_with fail
  obtain ⟨W, hW⟩ : ∃ W, W = ((w2.setCell ⟨w.heap.size + 1, 0, none⟩ (.bool (qneg q))).setCell ⟨w.heap.size + 1, 1, none⟩ (.slice A4 n4 c4)).setCell ⟨w.heap.size + 1, 2, none⟩ (.slice B4 m4 d4) := ⟨_, rfl⟩
  rw [← hW] at hcan2s hcan3s q1s q2s q3s hBs ⊢
  have e1 := hcan3s.num
  have e2 := hcan3s.den
  have e3 := hcan2s.num
  have e4 := hcan2s.den
  have k1 := hcan3s.hn
  have k2 := hcan3s.hm
  have k3 := hcan2s.hn
  have k4 := hcan2s.hm
  have Q1 := hide q1s
  have Q2 := hide q2s
  have Q3 := hide q3s
  have hz3 := q3s.2
  clear hW hc1 hcg hfg ho hcan2 q12 q22 q32 hcan1s hr2s Q1s Q2s Q3s hB1 hb2 hcan2s hcan3s q1s q2s q3s
  have hc1 := Q1.out.cells
  have hc2 := Q2.out.cells
  have hF := From.refl W
  have HE := hide (rmul_flag p q)
  go_region_held3 (fun w' => Only (w.heap.size + 1 + 1) W w' ∧ w'.cell? ⟨w.heap.size, 0, none⟩ = some (.bool (qneg p)) ∧ w'.cell? ⟨w.heap.size, 1, none⟩ = some (.slice A3 n3 c3) ∧ w'.cell? ⟨w.heap.size, 2, none⟩ = some (.slice B3 m3 d3) ∧ w'.cell? ⟨w.heap.size + 1, 0, none⟩ = some (.bool (qneg q)) ∧ w'.cell? ⟨w.heap.size + 1, 1, none⟩ = some (.slice A4 n4 c4) ∧ w'.cell? ⟨w.heap.size + 1, 2, none⟩ = some (.slice B4 m4 d4))
    ((go_split_ands; exact ⟨(by repeat (first | with_reducible assumption | with_reducible apply Only.set | with_reducible apply Only.drew | with_reducible apply Only.alloc | ((with_reducible apply From.only); (repeat (first | with_reducible assumption | with_reducible apply From.drew | with_reducible apply From.alloc))))), (BoxQ.only (g' := w.heap.size + 1 + 1) Q1.out (by repeat (first | with_reducible assumption | with_reducible apply Only.set | with_reducible apply Only.drew | with_reducible apply Only.alloc | ((with_reducible apply From.only); (repeat (first | with_reducible assumption | with_reducible apply From.drew | with_reducible apply From.alloc))))) (by omega)).cells.1, (BoxQ.only (g' := w.heap.size + 1 + 1) Q1.out (by repeat (first | with_reducible assumption | with_reducible apply Only.set | with_reducible apply Only.drew | with_reducible apply Only.alloc | ((with_reducible apply From.only); (repeat (first | with_reducible assumption | with_reducible apply From.drew | with_reducible apply From.alloc))))) (by omega)).cells.2.1, (BoxQ.only (g' := w.heap.size + 1 + 1) Q1.out (by repeat (first | with_reducible assumption | with_reducible apply Only.set | with_reducible apply Only.drew | with_reducible apply Only.alloc | ((with_reducible apply From.only); (repeat (first | with_reducible assumption | with_reducible apply From.drew | with_reducible apply From.alloc))))) (by omega)).cells.2.2, (BoxQ.only (g' := w.heap.size + 1 + 1) Q2.out (by repeat (first | with_reducible assumption | with_reducible apply Only.set | with_reducible apply Only.drew | with_reducible apply Only.alloc | ((with_reducible apply From.only); (repeat (first | with_reducible assumption | with_reducible apply From.drew | with_reducible apply From.alloc))))) (by omega)).cells.1, (BoxQ.only (g' := w.heap.size + 1 + 1) Q2.out (by repeat (first | with_reducible assumption | with_reducible apply Only.set | with_reducible apply Only.drew | with_reducible apply Only.alloc | ((with_reducible apply From.only); (repeat (first | with_reducible assumption | with_reducible apply From.drew | with_reducible apply From.alloc))))) (by omega)).cells.2.1, (BoxQ.only (g' := w.heap.size + 1 + 1) Q2.out (by repeat (first | with_reducible assumption | with_reducible apply Only.set | with_reducible apply Only.drew | with_reducible apply Only.alloc | ((with_reducible apply From.only); (repeat (first | with_reducible assumption | with_reducible apply From.drew | with_reducible apply From.alloc))))) (by omega)).cells.2.2⟩))
    (first
    | (go_at_call 70; (with_reducible refine (rmul2 (by repeat (first | with_reducible assumption | with_reducible apply Rd.drew | with_reducible apply Rd.upAlloc | ((with_reducible apply Rd.up); (with_reducible assumption)))) (by repeat (first | with_reducible assumption | with_reducible apply Rd.drew | with_reducible apply Rd.upAlloc | ((with_reducible apply Rd.up); (with_reducible assumption)))) (by omega) (by omega)).mono ?_); rintro e w' ⟨A', n', c', rfl, h', hb', hn'⟩; go_split_ands; have hF' : From W w' := From.step (by repeat (first | with_reducible assumption | with_reducible apply From.drew | with_reducible apply From.alloc)) hb'; simp only [val_limbs] at h')
    | (go_at_call 17; (with_reducible refine (make_eqv (K := K + L) (r := p * q) (by repeat (first | with_reducible assumption | with_reducible apply Rd.drew | with_reducible apply Rd.upAlloc | ((with_reducible apply Rd.up); (with_reducible assumption)))) (by repeat (first | with_reducible assumption | with_reducible apply Rd.drew | with_reducible apply Rd.upAlloc | ((with_reducible apply Rd.up); (with_reducible assumption)))) (by simpa only [val_limbs] using HE.out) (by omega) (by omega) (by omega) (by omega)).mono ?_); rintro e w' ⟨A', n', c', B', m', d', rfl, hcan, hb'⟩; go_split_ands; have hF' : From W w' := From.step (by repeat (first | with_reducible assumption | with_reducible apply From.drew | with_reducible apply From.alloc)) hb'; have hno := (Q3.out.later hF').noNum; have hcg := (Q3.out.later hF').cells; have hfg := (Q3.out.later hF').free))
  all_goals
    go_wp2
    exact bodyPost_ret (v := .agg #[.bool (qneg (p * q)), .slice A' n' c', .slice B' m' d']) (by simp [results, Try.results38, go_sem, hcg]) rfl ⟨A', n', c', B', m', d', rfl, (by repeat (first | with_reducible assumption | with_reducible apply CanQ.drew | ((with_reducible apply CanQ.store3); (focus assumption)))), Only.bel (g := w.heap.size + 1 + 1) (by repeat (first | with_reducible assumption | with_reducible apply Only.set | with_reducible apply Only.drew | with_reducible apply Only.alloc | ((with_reducible apply From.only); (repeat (first | with_reducible assumption | with_reducible apply From.drew | with_reducible apply From.alloc))))) hBs hBs.size (by omega)⟩
end Go.Proofs.Ytlomanhmpbapeaa
