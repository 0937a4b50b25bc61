/- The walk of the reference's Add of rationals. -/
import Derived.Test.YtlomanhmpbapeaaRatSub
namespace Go.Proofs.Ytlomanhmpbapeaa
open Go.RowKit
theorem radd_le {w : World} {A B : Option Addr} {n c m d a : Nat} {l k : List Nat} (h : Rd w A n c l) (h' : Rd w B m d k) (hn : n ≤ a) (hm : m ≤ a) (ha : a ≤ 1000000) :
    Calls Try.prog 71 #[.slice A n c, .slice B m d] w (RetB (val l + val k) (a + 1) w) :=
  (radd_any A n c l B m d k w h h' (by omega) (by omega)).mono fun _ _ hr => hr.b (by
    have h1 := Nat.lt_of_lt_of_le (val_lt_len h) (pow_le_pow_limb hn)
    have h2 := Nat.lt_of_lt_of_le (val_lt_len h') (pow_le_pow_limb hm)
    rw [Nat.pow_succ]
    omega)


set_option maxHeartbeats 8000000 in
theorem radd_q (s : Bool) (A : Option Addr) (n c : Nat) (B : Option Addr) (m d : Nat) (p : Rat) (K : Nat) (t : Bool) (A2 : Option Addr) (n2 c2 : Nat) (B2 : Option Addr) (m2 d2 : Nat) (q : Rat) (L : Nat) (w : World)
    (h : RawQ w s A n c B m d p K) (h' : RawQ w t A2 n2 c2 B2 m2 d2 q L) (hK1 : 1 ≤ K) (hL1 : 1 ≤ L) (hK : K ≤ 400) (hL : L ≤ 400) :
    Calls Try.prog 37 #[.agg #[.bool s, .slice A n c, .slice B m d], .agg #[.bool t, .slice A2 n2 c2, .slice B2 m2 d2]] w (RetQ (p + q) (K + L + 1) w) := by
  obtain ⟨W0, hW0, hS, q1, q2, q3⟩ := boxes3 w s A n c B m d t A2 n2 c2 B2 m2 d2
  have hr1 := h.below hS
  have hr2 := h'.below hS
  have HW := hide hW0
  clear hW0 h h'
  go_enter Try.func37, Try.ntmps37
  go_wp2_with fail
  rw [← HW.out]
  refine (rtrim_q _ _ _ _ _ _ _ _ K _ hr1 hK1 (by omega)).mono ?_
  rintro e w1 ⟨A3, n3, c3, B3, m3, d3, rfl, hcan1, hb1⟩
  have q11 := q1.below hb1
  have q21 := q2.below hb1
  have q31 := q3.below hb1
  have hcg := q11.cells
  have hfg := q11.free
  have hc2 := q21.cells
  have ho := only3 w1 w.heap.size (.bool (qneg p)) (.slice A3 n3 c3) (.slice B3 m3 d3)
  have hcan1s := hcan1.far ho q11.noNum
  have hr2s := (hr2.below hb1).far ho q11.noNum
  have Q1s := hide (q11.store3 (qneg p) A3 n3 c3 B3 m3 d3)
  have Q2s := hide (BoxQ.only (g' := w.heap.size) q21 ho (by omega))
  have Q3s := hide (BoxQ.only (g' := w.heap.size) q31 ho (by omega))
  have hB1 := below3 (below_step hb1 hS) (Nat.le_refl _) (.bool (qneg p)) (.slice A3 n3 c3) (.slice B3 m3 d3)
  clear q1 q2 q3 hr1 hr2 hcan1 ho q11 q21 q31 hS hb1
  go_wp2_with fail
  obtain ⟨W1, hW1⟩ : ∃ W1, W1 = ((w1.setCell ⟨w.heap.size, 0, none⟩ (.bool (qneg p))).setCell ⟨w.heap.size, 1, none⟩ (.slice A3 n3 c3)).setCell ⟨w.heap.size, 2, none⟩ (.slice B3 m3 d3) := ⟨_, rfl⟩
  rw [← hW1] at hcan1s hr2s Q1s Q2s Q3s hB1 ⊢
  clear hW1 hcg hfg hc2
  refine (rtrim_q _ _ _ _ _ _ _ _ L _ hr2s hL1 (by omega)).mono ?_
  rintro e w2 ⟨A4, n4, c4, B4, m4, d4, rfl, hcan2, hb2⟩
  have q12 := Q1s.out.below hb2
  have q22 := Q2s.out.below hb2
  have q32 := Q3s.out.below hb2
  have hcg := q22.cells
  have hfg := q22.free
  have hc1 := q12.cells
  have ho := only3 w2 (w.heap.size + 1) (.bool (qneg q)) (.slice A4 n4 c4) (.slice B4 m4 d4)
  have hcan2s := hcan2.far ho q22.noNum
  have hcan3s := (hcan1s.below hb2).far ho q22.noNum
  have q1s := BoxQ.only (g' := w.heap.size + 1) q12 ho (by omega)
  have q2s := q22.store3 (qneg q) A4 n4 c4 B4 m4 d4
  have q3s := BoxQ.only (g' := w.heap.size + 1) q32 ho (by omega)
  have hBs := below3 (below_step hb2 hB1) (Nat.le_add_right w.heap.size 1) (.bool (qneg q)) (.slice A4 n4 c4) (.slice B4 m4 d4)
  go_wp2_with fail
  obtain ⟨W, hW⟩ : ∃ W, W = ((w2.setCell ⟨w.heap.size + 1, 0, none⟩ (.bool (qneg q))).setCell ⟨w.heap.size + 1, 1, none⟩ (.slice A4 n4 c4)).setCell ⟨w.heap.size + 1, 2, none⟩ (.slice B4 m4 d4) := ⟨_, rfl⟩
  rw [← hW] at hcan2s hcan3s q1s q2s q3s hBs ⊢
  have e1 := hcan3s.num
  have e2 := hcan3s.den
  have e3 := hcan2s.num
  have e4 := hcan2s.den
  have k1 := hcan3s.hn
  have k2 := hcan3s.hm
  have k3 := hcan2s.hn
  have k4 := hcan2s.hm
  have Q1 := hide q1s
  have Q2 := hide q2s
  have Q3 := hide q3s
  have hz3 := q3s.2
  clear hW hc1 hcg hfg ho hcan2 q12 q22 q32 hcan1s hr2s Q1s Q2s Q3s hB1 hb2 hcan2s hcan3s q1s q2s q3s
  have hc1 := Q1.out.cells
  have hc2 := Q2.out.cells
  have hF := From.refl W
  obtain ⟨sp, hsp⟩ : ∃ s, s = qneg p := ⟨_, rfl⟩
  obtain ⟨sq, hsq⟩ : ∃ s, s = qneg q := ⟨_, rfl⟩
  rw [← hsp] at hc1 Q1
  rw [← hsq] at hc2 Q2
  have HSP := hide hsp
  have HSQ := hide hsq
  clear hsp hsq
  refine (rmul2 e1 e4 (by omega) (by omega)).mono ?_
  rintro e w5 ⟨A5, n5, c5, rfl, h5, hb5, hn5⟩
  simp only [val_limbs] at h5
  have hF5 : From W w5 := From.step hF hb5
  clear hc1 hc2
  have hc1 := (Q1.out.later hF5).cells
  have hc2 := (Q2.out.later hF5).cells
  go_wp2_with fail
  refine (rmul2 (e3.below hb5) (e2.below hb5) (by omega) (by omega)).mono ?_
  rintro e w6 ⟨A6, n6, c6, rfl, h6, hb6, hn6⟩
  simp only [val_limbs] at h6
  have hF6 : From W w6 := From.step hF5 hb6
  clear hc1 hc2
  have hc1 := (Q1.out.later hF6).cells
  have hc2 := (Q2.out.later hF6).cells
  go_wp2_with fail
  refine (rmul2 ((e2.below hb5).below hb6) ((e4.below hb5).below hb6) (by omega) (by omega)).mono ?_
  rintro e w7 ⟨A7, n7, c7, rfl, h7, hb7, hn7⟩
  simp only [val_limbs] at h7
  have hF7 : From W w7 := From.step hF6 hb7
  replace h5 := (h5.below hb6).below hb7
  replace h6 := h6.below hb7
  clear hc1 hc2
  have hc1 := (Q1.out.later hF7).cells
  have hc2 := (Q2.out.later hF7).cells
  clear hb5 hb6 hb7 hF hF5 hF6 e1 e2 e3 e4
  by_cases hst : sp = sq
  · subst hst
    have HE := hide (plus_same HSP.out HSQ.out)
    go_wp2_with fail
    go_region_held3 (fun w' => Only (w.heap.size + 1 + 1) W w' ∧ w'.cell? ⟨w.heap.size, 0, none⟩ = some (.bool sp))
      ((go_split_ands; exact ⟨(by repeat (first | with_reducible assumption | with_reducible apply Only.set | with_reducible apply Only.drew | with_reducible apply Only.alloc | ((with_reducible apply From.only); (repeat (first | with_reducible assumption | with_reducible apply From.drew | with_reducible apply From.alloc))))), (BoxQ.only (g' := w.heap.size + 1 + 1) Q1.out (by repeat (first | with_reducible assumption | with_reducible apply Only.set | with_reducible apply Only.drew | with_reducible apply Only.alloc | ((with_reducible apply From.only); (repeat (first | with_reducible assumption | with_reducible apply From.drew | with_reducible apply From.alloc))))) (by omega)).cells.1⟩))
      (first
      | (go_at_call 71; (with_reducible refine (radd_le (a := K + L) (by repeat (first | with_reducible assumption | with_reducible apply Rd.drew | with_reducible apply Rd.upAlloc | ((with_reducible apply Rd.up); (with_reducible assumption)))) (by repeat (first | with_reducible assumption | with_reducible apply Rd.drew | with_reducible apply Rd.upAlloc | ((with_reducible apply Rd.up); (with_reducible assumption)))) (by omega) (by omega) (by omega)).mono ?_); rintro e w8 ⟨A8, n8, c8, rfl, h8, hb8, hn8⟩; go_split_ands; have hF8 : From W w8 := From.step (by repeat (first | with_reducible assumption | with_reducible apply From.drew | with_reducible apply From.alloc)) hb8; simp only [val_limbs] at h8)
      | (go_at_call 17; (with_reducible refine (make_eqv (K := K + L + 1) (r := p + q) (by repeat (first | with_reducible assumption | with_reducible apply Rd.drew | with_reducible apply Rd.upAlloc | ((with_reducible apply Rd.up); (with_reducible assumption)))) (by repeat (first | with_reducible assumption | with_reducible apply Rd.drew | with_reducible apply Rd.upAlloc | ((with_reducible apply Rd.up); (with_reducible assumption)))) (by simpa only [val_limbs] using HE.out) (by omega) (by omega) (by omega) (by omega)).mono ?_); rintro e w' ⟨A', n', c', B', m', d', rfl, hcan, hb'⟩; go_split_ands; have hF' : From W w' := From.step (by repeat (first | with_reducible assumption | with_reducible apply From.drew | with_reducible apply From.alloc)) hb'; have hno := (Q3.out.later hF').noNum; have hcg := (Q3.out.later hF').cells; have hfg := (Q3.out.later hF').free))
    go_wp2
    exact bodyPost_ret (v := .agg #[.bool (qneg (p + q)), .slice A' n' c', .slice B' m' d']) (by simp [results, Try.results37, go_sem, hcg]) rfl ⟨A', n', c', B', m', d', rfl, (by repeat (first | with_reducible assumption | with_reducible apply CanQ.drew | ((with_reducible apply CanQ.store3); (focus assumption)))), Only.bel (g := w.heap.size + 1 + 1) (by repeat (first | with_reducible assumption | with_reducible apply Only.set | with_reducible apply Only.drew | with_reducible apply Only.alloc | ((with_reducible apply From.only); (repeat (first | with_reducible assumption | with_reducible apply From.drew | with_reducible apply From.alloc))))) hBs hBs.size (by omega)⟩
  · have hsb : (sp == sq) = false := by simp; exact hst
    have hcall := rcmp_any _ _ _ _ _ _ _ _ _ h5 h6
    rw [val_limbs, val_limbs] at hcall
    by_cases hlt : p.num.natAbs * q.den < q.num.natAbs * p.den
    · rw [cmpV_lt hlt] at hcall
      have HE := hide (plus_right HSP.out HSQ.out hst (Nat.le_of_lt hlt))
      have HLE : Hid (val (limbs (p.num.natAbs * q.den)) ≤ val (limbs (q.num.natAbs * p.den))) := by rw [Hid, val_limbs, val_limbs]; exact Nat.le_of_lt hlt
      clear hst hlt
      go_wp2_with fail
      refine hcall.mono ?_
      rintro e w8 ⟨rfl, rfl⟩
      clear hcall hsb
      go_wp2_with fail
      go_region_held3 (fun w' => Only (w.heap.size + 1 + 1) W w' ∧ w'.cell? ⟨w.heap.size + 1, 0, none⟩ = some (.bool sq))
        ((go_split_ands; exact ⟨(by repeat (first | with_reducible assumption | with_reducible apply Only.set | with_reducible apply Only.drew | with_reducible apply Only.alloc | ((with_reducible apply From.only); (repeat (first | with_reducible assumption | with_reducible apply From.drew | with_reducible apply From.alloc))))), (BoxQ.only (g' := w.heap.size + 1 + 1) Q2.out (by repeat (first | with_reducible assumption | with_reducible apply Only.set | with_reducible apply Only.drew | with_reducible apply Only.alloc | ((with_reducible apply From.only); (repeat (first | with_reducible assumption | with_reducible apply From.drew | with_reducible apply From.alloc))))) (by omega)).cells.1⟩))
        (first
        | (go_at_call 73; (with_reducible refine (rsub2 (by repeat (first | with_reducible assumption | with_reducible apply Rd.drew | with_reducible apply Rd.upAlloc | ((with_reducible apply Rd.up); (with_reducible assumption)))) (by repeat (first | with_reducible assumption | with_reducible apply Rd.drew | with_reducible apply Rd.upAlloc | ((with_reducible apply Rd.up); (with_reducible assumption)))) (by omega) HLE.out).mono ?_); rintro e w8 ⟨A8, n8, c8, rfl, h8, hb8, hn8⟩; go_split_ands; have hF8 : From W w8 := From.step (by repeat (first | with_reducible assumption | with_reducible apply From.drew | with_reducible apply From.alloc)) hb8; simp only [val_limbs] at h8)
        | (go_at_call 17; (with_reducible refine (make_eqv (K := K + L + 1) (r := p + q) (by repeat (first | with_reducible assumption | with_reducible apply Rd.drew | with_reducible apply Rd.upAlloc | ((with_reducible apply Rd.up); (with_reducible assumption)))) (by repeat (first | with_reducible assumption | with_reducible apply Rd.drew | with_reducible apply Rd.upAlloc | ((with_reducible apply Rd.up); (with_reducible assumption)))) (by simpa only [val_limbs] using HE.out) (by omega) (by omega) (by omega) (by omega)).mono ?_); rintro e w' ⟨A', n', c', B', m', d', rfl, hcan, hb'⟩; go_split_ands; have hF' : From W w' := From.step (by repeat (first | with_reducible assumption | with_reducible apply From.drew | with_reducible apply From.alloc)) hb'; have hno := (Q3.out.later hF').noNum; have hcg := (Q3.out.later hF').cells; have hfg := (Q3.out.later hF').free))
      go_wp2
      exact bodyPost_ret (v := .agg #[.bool (qneg (p + q)), .slice A' n' c', .slice B' m' d']) (by simp [results, Try.results37, go_sem, hcg]) rfl ⟨A', n', c', B', m', d', rfl, (by repeat (first | with_reducible assumption | with_reducible apply CanQ.drew | ((with_reducible apply CanQ.store3); (focus assumption)))), Only.bel (g := w.heap.size + 1 + 1) (by repeat (first | with_reducible assumption | with_reducible apply Only.set | with_reducible apply Only.drew | with_reducible apply Only.alloc | ((with_reducible apply From.only); (repeat (first | with_reducible assumption | with_reducible apply From.drew | with_reducible apply From.alloc))))) hBs hBs.size (by omega)⟩
    · have hcv : 0 ≤ cmpV (p.num.natAbs * q.den) (q.num.natAbs * p.den) := by unfold cmpV; rw [if_neg hlt]; split <;> omega
      have HE := hide (plus_left HSP.out HSQ.out hst (Nat.le_of_not_lt hlt))
      have HLE : Hid (val (limbs (q.num.natAbs * p.den)) ≤ val (limbs (p.num.natAbs * q.den))) := by rw [Hid, val_limbs, val_limbs]; exact Nat.le_of_not_lt hlt
      obtain ⟨cv, hcve⟩ : ∃ cv, cv = cmpV (p.num.natAbs * q.den) (q.num.natAbs * p.den) := ⟨_, rfl⟩
      rw [← hcve] at hcall hcv
      clear hst hlt hcve
      go_wp2_with fail
      refine hcall.mono ?_
      rintro e w8 ⟨rfl, rfl⟩
      clear hcall hsb
      go_wp2_with fail
      go_region_held3 (fun w' => Only (w.heap.size + 1 + 1) W w' ∧ w'.cell? ⟨w.heap.size, 0, none⟩ = some (.bool sp))
        ((go_split_ands; exact ⟨(by repeat (first | with_reducible assumption | with_reducible apply Only.set | with_reducible apply Only.drew | with_reducible apply Only.alloc | ((with_reducible apply From.only); (repeat (first | with_reducible assumption | with_reducible apply From.drew | with_reducible apply From.alloc))))), (BoxQ.only (g' := w.heap.size + 1 + 1) Q1.out (by repeat (first | with_reducible assumption | with_reducible apply Only.set | with_reducible apply Only.drew | with_reducible apply Only.alloc | ((with_reducible apply From.only); (repeat (first | with_reducible assumption | with_reducible apply From.drew | with_reducible apply From.alloc))))) (by omega)).cells.1⟩))
        (first
        | (go_at_call 73; (with_reducible refine (rsub2 (by repeat (first | with_reducible assumption | with_reducible apply Rd.drew | with_reducible apply Rd.upAlloc | ((with_reducible apply Rd.up); (with_reducible assumption)))) (by repeat (first | with_reducible assumption | with_reducible apply Rd.drew | with_reducible apply Rd.upAlloc | ((with_reducible apply Rd.up); (with_reducible assumption)))) (by omega) HLE.out).mono ?_); rintro e w8 ⟨A8, n8, c8, rfl, h8, hb8, hn8⟩; go_split_ands; have hF8 : From W w8 := From.step (by repeat (first | with_reducible assumption | with_reducible apply From.drew | with_reducible apply From.alloc)) hb8; simp only [val_limbs] at h8)
        | (go_at_call 17; (with_reducible refine (make_eqv (K := K + L + 1) (r := p + q) (by repeat (first | with_reducible assumption | with_reducible apply Rd.drew | with_reducible apply Rd.upAlloc | ((with_reducible apply Rd.up); (with_reducible assumption)))) (by repeat (first | with_reducible assumption | with_reducible apply Rd.drew | with_reducible apply Rd.upAlloc | ((with_reducible apply Rd.up); (with_reducible assumption)))) (by simpa only [val_limbs] using HE.out) (by omega) (by omega) (by omega) (by omega)).mono ?_); rintro e w' ⟨A', n', c', B', m', d', rfl, hcan, hb'⟩; go_split_ands; have hF' : From W w' := From.step (by repeat (first | with_reducible assumption | with_reducible apply From.drew | with_reducible apply From.alloc)) hb'; have hno := (Q3.out.later hF').noNum; have hcg := (Q3.out.later hF').cells; have hfg := (Q3.out.later hF').free))
      go_wp2
      exact bodyPost_ret (v := .agg #[.bool (qneg (p + q)), .slice A' n' c', .slice B' m' d']) (by simp [results, Try.results37, go_sem, hcg]) rfl ⟨A', n', c', B', m', d', rfl, (by repeat (first | with_reducible assumption | with_reducible apply CanQ.drew | ((with_reducible apply CanQ.store3); (focus assumption)))), Only.bel (g := w.heap.size + 1 + 1) (by repeat (first | with_reducible assumption | with_reducible apply Only.set | with_reducible apply Only.drew | with_reducible apply Only.alloc | ((with_reducible apply From.only); (repeat (first | with_reducible assumption | with_reducible apply From.drew | with_reducible apply From.alloc))))) hBs hBs.size (by omega)⟩
end Go.Proofs.Ytlomanhmpbapeaa
