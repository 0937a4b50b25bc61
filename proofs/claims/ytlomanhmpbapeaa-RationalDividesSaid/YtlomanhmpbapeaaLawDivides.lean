/- The walk of the law RationalDivides. -/
import Derived.Test.YtlomanhmpbapeaaRatErr
namespace Go.Proofs.Ytlomanhmpbapeaa
open Go.RowKit

theorem div_back {a b : Rat} (h : b ≠ 0) : a / b * b = a := by rw [Rat.div_def, Rat.mul_assoc, Rat.inv_mul_cancel b h, Rat.mul_one]
theorem mul_div {a b : Rat} (h : b ≠ 0) : a * b / b = a := by rw [Rat.div_def, Rat.mul_assoc, Rat.mul_inv_cancel b h, Rat.mul_one]

set_option maxHeartbeats 8000000 in
set_option maxRecDepth 10000 in
theorem law_RationalDivides (w : World) (s1 : Bool) (A1 : Option Addr) (n1 c1 : Nat) (x1 : List Nat) (B1 : Option Addr) (m1 d1 : Nat) (y1 : List Nat) (g1 : Rd w A1 n1 c1 x1) (sA1 : n1 ≤ 35184372088832) (g1' : Rd w B1 m1 d1 y1) (sB1 : m1 ≤ 35184372088832) (s2 : Bool) (A2 : Option Addr) (n2 c2 : Nat) (x2 : List Nat) (B2 : Option Addr) (m2 d2 : Nat) (y2 : List Nat) (g2 : Rd w A2 n2 c2 x2) (sA2 : n2 ≤ 35184372088832) (g2' : Rd w B2 m2 d2 y2) (sB2 : m2 ≤ 35184372088832) :
    Calls Try.prog 6 #[.agg #[.bool s1, .slice A1 n1 c1, .slice B1 m1 d1], .agg #[.bool s2, .slice A2 n2 c2, .slice B2 m2 d2]] w (Makes (.bool true) w) := by
  obtain ⟨W0, hW, hS, q1, q2⟩ := boxes2 w s1 A1 n1 c1 B1 m1 d1 s2 A2 n2 c2 B2 m2 d2
  have e1 := g1.below hS
  have e1' := g1'.below hS
  have e2 := g2.below hS
  have e2' := g2'.below hS
  have hlist := rawl_two (s := s1) (t := s2) (g := w.heap.size + 1 + 1) (by rw [hW]; simp) e1 e1' e2 e2'
  have hcall := longq_any 16 _ 2 2 _ _ hlist (by
    intro t ht
    simp only [List.mem_cons, List.not_mem_nil, or_false] at ht
    rcases ht with rfl | rfl
    · exact ⟨by rw [e1.len]; exact sA1, by rw [e1'.len]; exact sB1⟩
    · exact ⟨by rw [e2.len]; exact sA2, by rw [e2'.len]; exact sB2⟩) (by omega)
  have hB2 := below_step (below_alloc W0 (.cells #[.bool s1, .slice A1 n1 c1, .slice B1 m1 d1, .bool s2, .slice A2 n2 c2, .slice B2 m2 d2] 25)) hS
  have HW := hide hW
  have HCALL := hide hcall
  have q1b := q1.below (below_alloc W0 (.cells #[.bool s1, .slice A1 n1 c1, .slice B1 m1 d1, .bool s2, .slice A2 n2 c2, .slice B2 m2 d2] 25))
  have hc1 := q1.cells
  have q2b := q2.below (below_alloc W0 (.cells #[.bool s1, .slice A1 n1 c1, .slice B1 m1 d1, .bool s2, .slice A2 n2 c2, .slice B2 m2 d2] 25))
  have hc2 := q2.cells
  replace e1 := e1.below (below_alloc W0 (.cells #[.bool s1, .slice A1 n1 c1, .slice B1 m1 d1, .bool s2, .slice A2 n2 c2, .slice B2 m2 d2] 25))
  replace e1' := e1'.below (below_alloc W0 (.cells #[.bool s1, .slice A1 n1 c1, .slice B1 m1 d1, .bool s2, .slice A2 n2 c2, .slice B2 m2 d2] 25))
  replace e2 := e2.below (below_alloc W0 (.cells #[.bool s1, .slice A1 n1 c1, .slice B1 m1 d1, .bool s2, .slice A2 n2 c2, .slice B2 m2 d2] 25))
  replace e2' := e2'.below (below_alloc W0 (.cells #[.bool s1, .slice A1 n1 c1, .slice B1 m1 d1, .bool s2, .slice A2 n2 c2, .slice B2 m2 d2] 25))
  clear hW hcall hlist sA1 sB1 g1 g1' q1 sA2 sB2 g2 g2' q2
  go_enter Try.func6, Try.ntmps6
  go_wp2_with fail
  rw [← HW.out]
  refine HCALL.out.mono ?_
  rintro e w1 ⟨rfl, hb1⟩
  cases hlong : anyLongQ 16 [(s1, x1, y1), (s2, x2, y2)] with
  | true =>
    clear hlong hc1 hc2
    go_wp2
    go_ret
    exact ⟨rfl, below_step hb1 hB2⟩
  | false =>
    have hnm1 : n1 + m1 ≤ 16 := by
      have := anyLongQ_false hlong (s1, x1, y1) (by simp)
      rw [e1.len, e1'.len] at this
      exact this
    have hnm2 : n2 + m2 ≤ 16 := by
      have := anyLongQ_false hlong (s2, x2, y2) (by simp)
      rw [e2.len, e2'.len] at this
      exact this
    have hB := below_step hb1 hB2
    have q1c := q1b.below hb1
    have k1 := e1.below hb1
    have k1' := e1'.below hb1
    have q2c := q2b.below hb1
    have k2 := e2.below hb1
    have k2' := e2'.below hb1
    clear hlong hb1 hB2 hS HCALL HW hc1 e1 e1' q1b hc2 e2 e2' q2b
    clear W0
    obtain ⟨W, hW⟩ : ∃ W : World, W = w1 := ⟨_, rfl⟩
    subst hW
    obtain ⟨a, hq1⟩ : ∃ q, q = ratOf s1 (val x1) (val y1) := ⟨_, rfl⟩
    have r1 : RawQ W s1 A1 n1 c1 B1 m1 d1 a 16 := ⟨⟨x1, y1, k1, k1', hq1.symm⟩, by omega, by omega⟩
    have Q1 := hide q1c
    have hc1 := q1c.cells
    obtain ⟨b, hq2⟩ : ∃ q, q = ratOf s2 (val x2) (val y2) := ⟨_, rfl⟩
    have r2 : RawQ W s2 A2 n2 c2 B2 m2 d2 b 16 := ⟨⟨x2, y2, k2, k2', hq2.symm⟩, by omega, by omega⟩
    have Q2 := hide q2c
    have hc2 := q2c.cells
    clear hq1 q1c k1 k1' hnm1 hq2 q2c k2 k2' hnm2
    have hF := From.refl W
    have hn1 : w.heap.size < W.heap.size := Q1.out.2
    have hn2 : w.heap.size + 1 < W.heap.size := Q2.out.2
    by_cases h0 : b = 0
    · have hcall := qdiv_zero s1 A1 n1 c1 B1 m1 d1 _ _ _ _ _ _ _ _ _ W r2 (by omega) h0
      have H0 := hide (qsign_of_zero h0)
      clear h0
      go_wp2_with fail
      refine hcall.mono ?_
      rintro e w2 ⟨rfl, hb2⟩
      clear hcall hc1 hc2
      replace r2 := r2.below hb2
      have hc2 := (Q2.out.below hb2).cells
      have hz2 : w.heap.size + 1 < w2.heap.size := (Q2.out.below hb2).2
      have hne : ¬ w.heap.size + 1 = w2.heap.size := by omega
      have hne' : ¬ w2.heap.size = w.heap.size + 1 := by omega
      go_wp2_with fail
      refine (sign_q _ _ _ _ _ _ _ _ 16 _ r2.upAlloc (by omega)).mono ?_
      rw [H0.out]
      rintro e w3 ⟨rfl, hb3⟩
      have hc3 := ((BoxQ.new w2 false none 0 0 none 0 0).below hb3).cells
      have hB3 := below_step hb3 (below_step (below_alloc w2 (.cells #[.bool false, .slice none 0 0, .slice none 0 0] 25)) (below_step hb2 hB))
      clear hc2 hb2 hb3
      go_wp2_with fail
      refine (nil_nil _).mono ?_
      rintro e w4 ⟨rfl, hb4⟩
      go_wp2
      go_ret
      exact ⟨by rfl, below_step hb4 hB3⟩
    · have hcall := qdiv_ok _ _ _ _ _ _ _ _ _ _ _ _ _ _ _ _ _ _ W r1 r2 (by omega) (by omega) h0
      have H1 := hide (div_back (a := a) h0)
      have H2 := hide (mul_div (a := a) h0)
      have H3 := hide h0
      obtain ⟨x, hx⟩ : ∃ x, x = qsign b := ⟨_, rfl⟩
      have hx0 : (x == 0) = false := by
        have := mt qsign_zero.1 h0
        rw [← hx] at this
        simpa using this
      have HX := hide hx.symm
      clear h0 hx
      obtain ⟨y, hy⟩ : ∃ y, y = a / b := ⟨_, rfl⟩
      rw [← hy] at hcall H1
      clear hy
      go_wp2_with fail
      refine hcall.mono ?_
      rintro e w2 ⟨A5, n5, c5, B5, m5, d5, rfl, hcan, hb2⟩
      clear hcall hc1 hc2
      replace r1 := r1.below hb2
      replace r2 := r2.below hb2
      have hc1 := (Q1.out.below hb2).cells
      have hc2 := (Q2.out.below hb2).cells
      have hz2 : w.heap.size + 1 < w2.heap.size := (Q2.out.below hb2).2
      have hne : ¬ w.heap.size + 1 = w2.heap.size := by omega
      have hne' : ¬ w2.heap.size = w.heap.size + 1 := by omega
      go_wp2_with fail
      have hba := below_alloc w2 (.cells #[.bool (qneg y), .slice A5 n5 c5, .slice B5 m5 d5] 25)
      have Q5 := hide (BoxQ.new w2 (qneg y) A5 n5 c5 B5 m5 d5)
      replace Q1 := hide ((Q1.out.below hb2).below hba)
      replace Q2 := hide ((Q2.out.below hb2).below hba)
      replace r1 := r1.below hba
      replace r2 := r2.below hba
      replace hcan := hcan.below hba
      replace hB := below_step hba (below_step hb2 hB)
      obtain ⟨W1, hW1⟩ : ∃ W1, W1 = w2.alloc (.cells #[.bool (qneg y), .slice A5 n5 c5, .slice B5 m5 d5] 25) := ⟨_, rfl⟩
      rw [← hW1] at Q5 Q1 Q2 r1 r2 hcan hB ⊢
      obtain ⟨g5, hg5⟩ : ∃ g5, g5 = w2.heap.size := ⟨_, rfl⟩
      rw [← hg5] at Q5 ⊢
      have hz5 : w.heap.size + 1 < g5 := by omega
      clear hW1 hg5 hba hb2 hc1 hc2 hz2 hne hne' hn1 hn2 hF
      clear w2
      refine (sign_q _ _ _ _ _ _ _ _ 16 _ r2 (by omega)).mono ?_
      rw [HX.out]
      rintro e w3 ⟨rfl, hb3⟩
      replace Q1 := hide (Q1.out.below hb3)
      replace Q2 := hide (Q2.out.below hb3)
      replace Q5 := hide (Q5.out.below hb3)
      replace r1 := r1.below hb3
      replace r2 := r2.below hb3
      replace hcan := hcan.below hb3
      replace hB := below_step hb3 hB
      clear hb3
      clear W1
      obtain ⟨W2, hW2⟩ : ∃ W2 : World, W2 = w3 := ⟨_, rfl⟩
      subst hW2
      clear W
      obtain ⟨W, hW⟩ : ∃ W : World, W = W2 := ⟨_, rfl⟩
      subst hW
      go_wp2_with fail
      have hF := From.refl W
      have hg := hide Q5.out.2
      go_cut [7, 8] from 29 to 37 (fun v7 v8 wx => ∃ g8 A8 n8 c8 B8 m8 d8, v7 = .pointer (some ⟨g8, 0, none⟩) ∧ v8 = .int .i64 0 ∧ BoxQ wx g8 (qneg a) A8 n8 c8 B8 m8 d8 ∧ CanQ wx A8 n8 c8 B8 m8 d8 a 99 ∧ From W wx)
      case first =>
        refine wp_region_tabL 10 62 8 6 28 [IsV (.agg #[.bool s1, .slice A1 n1 c1, .slice B1 m1 d1]), IsV (.agg #[.bool s2, .slice A2 n2 c2, .slice B2 m2 d2]), IsQL [a, b] 16, IsQ (a * b) 33, IsV (.agg #[.bool s2, .slice A2 n2 c2, .slice B2 m2 d2]), IsQE a 99, IsQE (a) 99, IsQ (a) 99, IsV (.int .i64 0), IsBox W.heap.size] (From W) (by kernel_rfl) (by kernel_rfl) (by kernel_rfl) (by decide) (by kernel_rfl) rfl From.lasting (From.drew hF) (fun a9 o9 v9 wx ho hx hv he => ?_) (fun _ _ d9 _ _ h => by cases d9 <;> exact h) ?_
        · obtain rfl := Option.some.inj ho
          have hv' : (IsQE (a) 99) v9 wx := hv
          obtain ⟨A9, n9, c9, B9, m9, d9, rfl, h9⟩ := hv'
          exact ⟨.int .i64 0, Or.inl ⟨rfl, fun w9 => by simp only [execOp, he]; rfl⟩, rfl⟩
        simp only [List.take_succ_cons, List.drop_succ_cons, List.take_zero, List.drop_zero]
        refine Tab.cons IsV.lasting (fun wx hx hd => ?_) (fun v29 => ?_)
        · skip
          clear hd
          intro KK hK
          have hcell := (Q1.out.later hx).cells
          go_simp
          exact hK.out _ _ rfl (Below.refl _ _)
        simp only [Act.put, List.setIfInBounds_toArray, List.set_cons_zero, List.set_cons_succ]
        refine Tab.cons IsV.lasting (fun wx hx hd => ?_) (fun v30 => ?_)
        · skip
          clear hd
          intro KK hK
          have hcell := (Q2.out.later hx).cells
          go_simp
          exact hK.out _ _ rfl (Below.refl _ _)
        simp only [Act.put, List.setIfInBounds_toArray, List.set_cons_zero, List.set_cons_succ]
        refine Tab.cons IsQL.lasting (fun wx hx hd => ?_) (fun v31 => ?_)
        · skip
          have e29 : v29 = _ := (hd _ (.tail _ (.head _)) (by kernel_rfl) : (IsV (.agg #[.bool s1, .slice A1 n1 c1, .slice B1 m1 d1])) v29 wx)
          subst e29
          have e30 : v30 = _ := (hd _ (.head _) (by kernel_rfl) : (IsV (.agg #[.bool s2, .slice A2 n2 c2, .slice B2 m2 d2])) v30 wx)
          subst e30
          clear hd
          intro KK hK
          go_simp
          exact hK.out _ _ ⟨_, rfl, ql_two rfl (r1.below hx.out) (r2.below hx.out) (by omega) (by omega)⟩ (below_alloc _ _)
        simp only [Act.put, List.setIfInBounds_toArray, List.set_cons_zero, List.set_cons_succ]
        refine Tab.cons IsQ.lasting (fun wx hx hd => ?_) (fun v32 => ?_)
        · skip
          obtain ⟨g31, rfl, h31⟩ := (hd _ (.head _) (by kernel_rfl) : (IsQL [a, b] 16) v31 wx)
          clear hd
          intro KK hK
          go_simp
          refine (qmul_pair h31 (by omega) (by omega)).mono ?_
          rintro e w' ⟨A', n', c', B', m', d', rfl, hc', hb'⟩
          exact hK.out _ _ ⟨A', n', c', B', m', d', rfl, hc'⟩ hb'
        simp only [Act.put, List.setIfInBounds_toArray, List.set_cons_zero, List.set_cons_succ]
        refine Tab.cons IsV.lasting (fun wx hx hd => ?_) (fun v33 => ?_)
        · skip
          clear hd
          intro KK hK
          have hcell := (Q2.out.later hx).cells
          go_simp
          exact hK.out _ _ rfl (Below.refl _ _)
        simp only [Act.put, List.setIfInBounds_toArray, List.set_cons_zero, List.set_cons_succ]
        refine Tab.cons IsQE.lasting (fun wx hx hd => ?_) (fun v34 => ?_)
        · skip
          obtain ⟨A32, n32, c32, B32, m32, d32, rfl, h32⟩ := (hd _ (.tail _ (.head _)) (by kernel_rfl) : (IsQ (a * b) 33) v32 wx)
          have e33 : v33 = _ := (hd _ (.head _) (by kernel_rfl) : (IsV (.agg #[.bool s2, .slice A2 n2 c2, .slice B2 m2 d2])) v33 wx)
          subst e33
          clear hd
          intro KK hK
          go_simp
          refine (qdiv_ok _ _ _ _ _ _ _ (a * b) 33 _ _ _ _ _ _ _ b 16 _ h32.raw (r2.below hx.out) (by omega) (by omega) H3.out).mono ?_
          rw [H2.out]
          rintro e w' ⟨A', n', c', B', m', d', rfl, hc', hb'⟩
          exact hK.out _ _ ⟨A', n', c', B', m', d', rfl, hc'⟩ hb'
        simp only [Act.put, List.setIfInBounds_toArray, List.set_cons_zero, List.set_cons_succ]
        refine Tab.cons IsQE.lasting (fun wx hx hd => ?_) (fun v28 => ?_)
        · skip
          obtain ⟨A34, n34, c34, B34, m34, d34, rfl, h34⟩ := (hd _ (.head _) (by kernel_rfl) : (IsQE a 99) v34 wx)
          clear hd
          intro KK hK
          go_simp
          exact hK.out _ _ ⟨A34, n34, c34, B34, m34, d34, rfl, h34⟩ (Below.refl _ _)
        simp only [Act.put, List.setIfInBounds_toArray, List.set_cons_zero, List.set_cons_succ]
        refine Tab.cons IsQ.lasting (fun wx hx hd => ?_) (fun v35 => ?_)
        · skip
          obtain ⟨A28, n28, c28, B28, m28, d28, rfl, h28⟩ := (hd _ (.head _) (by kernel_rfl) : (IsQE (a) 99) v28 wx)
          clear hd
          intro KK hK
          go_simp
          exact hK.out _ _ ⟨A28, n28, c28, B28, m28, d28, rfl, h28⟩ (Below.refl _ _)
        simp only [Act.put, List.setIfInBounds_toArray, List.set_cons_zero, List.set_cons_succ]
        refine Tab.cons IsV.lasting (fun wx hx hd => ?_) (fun v36 => ?_)
        · skip
          obtain ⟨A28, n28, c28, B28, m28, d28, rfl, h28⟩ := (hd _ (.tail _ (.head _)) (by kernel_rfl) : (IsQE (a) 99) v28 wx)
          clear hd
          intro KK hK
          go_simp
          exact hK.out _ _ rfl (Below.refl _ _)
        simp only [Act.put, List.setIfInBounds_toArray, List.set_cons_zero, List.set_cons_succ]
        refine Tab.cons IsBox.lasting (fun wx hx hd => ?_) (fun v7 => ?_)
        · skip
          clear hd
          intro KK hK
          go_simp
          exact hK.out _ _ ⟨_, hx.out.size, rfl, BoxQ.new _ _ _ _ _ _ _ _⟩ (below_alloc _ _)
        simp only [Act.put, List.setIfInBounds_toArray, List.set_cons_zero, List.set_cons_succ]
        refine Tab.nil fun wx hx hd => ?_
        obtain ⟨A35, n35, c35, B35, m35, d35, rfl, h35⟩ := (hd _ (.tail _ (.tail _ (.head _))) : (IsQ (a) 99) v35 wx)
        have e36 : v36 = _ := (hd _ (.tail _ (.head _)) : (IsV (.int .i64 0)) v36 wx)
        subst e36
        obtain ⟨g7, j7, rfl, h7⟩ := (hd _ (.head _) : (IsBox W.heap.size) v7 wx)
        clear hd
        have hc8 := h7.cells
        have hf8 := h7.free
        go_wp2
        go_meet
        case rel => exact ⟨g7, A35, n35, c35, B35, m35, d35, rfl, rfl, h7.store3 _ _ _ _ _ _ _, h35.store3 h7.noNum, Below.up3 j7 hx⟩
      case rest =>
        obtain ⟨g8, A8, n8, c8, B8, m8, d8, rfl, rfl, q8, hcan8, hF8⟩ := hcut
        replace Q1 := hide (Q1.out.later hF8)
        replace Q2 := hide (Q2.out.later hF8)
        replace Q5 := hide (Q5.out.later hF8)
        have Q8 := hide q8
        replace r1 := r1.below hF8.out
        replace r2 := r2.below hF8.out
        replace hcan := hcan.below hF8.out
        replace hB := below_step hF8.out hB
        clear hF hF8 q8 hg
        clear W
        obtain ⟨W, hW⟩ : ∃ W : World, W = wc := ⟨_, rfl⟩
        subst hW
        have hF := From.refl W
        go_wp2_with fail
        refine wp_region_tab 26 62 [IsV (.int .i64 0), IsV (.bool true), IsV (.bool true), IsV (.int .i64 0), IsV (.bool true), IsV (.bool true), IsV (.bool true), IsV (.agg #[.bool (qneg y), .slice A5 n5 c5, .slice B5 m5 d5]), IsV (.bool true), IsV (.bool true), IsV (.bool true), IsV (.agg #[.bool (qneg y), .slice A5 n5 c5, .slice B5 m5 d5]), IsV (.agg #[.bool s2, .slice A2 n2 c2, .slice B2 m2 d2]), IsQL [y, b] 65, IsQ (y * b) 131, IsV (.agg #[.bool s1, .slice A1 n1 c1, .slice B1 m1 d1]), IsQ (a) 16, IsV (.bool true), IsV (.bool true), IsV (.bool true), IsV (.agg #[.bool (qneg a), .slice A8 n8 c8, .slice B8 m8 d8]), IsV (.agg #[.bool s1, .slice A1 n1 c1, .slice B1 m1 d1]), IsQ (a) 16, IsV (.bool true), IsV (.bool true), IsV (.bool true)] (From W) (by kernel_rfl) (by kernel_rfl) (by kernel_rfl) rfl From.lasting (From.drew hF) ?_
        simp only [List.take_succ_cons, List.drop_succ_cons, List.take_nil, List.drop_nil]
        refine Tab.cons IsV.lasting (fun wx hx hd => ?_) (fun v37 => ?_)
        · skip
          clear hd
          intro KK hK
          go_simp
          exact hK.out _ _ rfl (Below.refl _ _)
        simp only [Act.put, List.setIfInBounds_toArray, List.set_cons_zero, List.set_cons_succ]
        refine Tab.cons IsV.lasting (fun wx hx hd => ?_) (fun v38 => ?_)
        · skip
          have e37 : v37 = _ := (hd _ (.head _) (by kernel_rfl) : (IsV (.int .i64 0)) v37 wx)
          subst e37
          clear hd
          intro KK hK
          go_simp
          exact hK.out _ _ rfl (Below.refl _ _)
        simp only [Act.put, List.setIfInBounds_toArray, List.set_cons_zero, List.set_cons_succ]
        refine Tab.cons IsV.lasting (fun wx hx hd => ?_) (fun v39 => ?_)
        · skip
          have e38 : v38 = _ := (hd _ (.head _) (by kernel_rfl) : (IsV (.bool true)) v38 wx)
          subst e38
          clear hd
          intro KK hK
          go_simp
          exact hK.out _ _ rfl (Below.refl _ _)
        simp only [Act.put, List.setIfInBounds_toArray, List.set_cons_zero, List.set_cons_succ]
        refine Tab.cons IsV.lasting (fun wx hx hd => ?_) (fun v40 => ?_)
        · skip
          have e39 : v39 = _ := (hd _ (.head _) (by kernel_rfl) : (IsV (.bool true)) v39 wx)
          subst e39
          clear hd
          intro KK hK
          go_simp
          exact hK.out _ _ rfl (Below.refl _ _)
        simp only [Act.put, List.setIfInBounds_toArray, List.set_cons_zero, List.set_cons_succ]
        refine Tab.cons IsV.lasting (fun wx hx hd => ?_) (fun v41 => ?_)
        · skip
          have e40 : v40 = _ := (hd _ (.head _) (by kernel_rfl) : (IsV (.int .i64 0)) v40 wx)
          subst e40
          have e39 : v39 = _ := (hd _ (.tail _ (.head _)) (by kernel_rfl) : (IsV (.bool true)) v39 wx)
          subst e39
          clear hd
          intro KK hK
          go_simp
          exact hK.out _ _ rfl (Below.refl _ _)
        simp only [Act.put, List.setIfInBounds_toArray, List.set_cons_zero, List.set_cons_succ]
        refine Tab.cons IsV.lasting (fun wx hx hd => ?_) (fun v42 => ?_)
        · skip
          have e39 : v39 = _ := (hd _ (.tail _ (.tail _ (.head _))) (by kernel_rfl) : (IsV (.bool true)) v39 wx)
          subst e39
          have e41 : v41 = _ := (hd _ (.head _) (by kernel_rfl) : (IsV (.bool true)) v41 wx)
          subst e41
          clear hd
          intro KK hK
          go_simp
          exact hK.out _ _ rfl (Below.refl _ _)
        simp only [Act.put, List.setIfInBounds_toArray, List.set_cons_zero, List.set_cons_succ]
        refine Tab.cons IsV.lasting (fun wx hx hd => ?_) (fun v43 => ?_)
        · skip
          have e42 : v42 = _ := (hd _ (.head _) (by kernel_rfl) : (IsV (.bool true)) v42 wx)
          subst e42
          clear hd
          intro KK hK
          go_simp
          exact hK.out _ _ rfl (Below.refl _ _)
        simp only [Act.put, List.setIfInBounds_toArray, List.set_cons_zero, List.set_cons_succ]
        refine Tab.cons IsV.lasting (fun wx hx hd => ?_) (fun v44 => ?_)
        · skip
          have e43 : v43 = _ := (hd _ (.head _) (by kernel_rfl) : (IsV (.bool true)) v43 wx)
          subst e43
          clear hd
          intro KK hK
          have hcell := (Q5.out.later hx).cells
          go_simp
          exact hK.out _ _ rfl (Below.refl _ _)
        simp only [Act.put, List.setIfInBounds_toArray, List.set_cons_zero, List.set_cons_succ]
        refine Tab.cons IsV.lasting (fun wx hx hd => ?_) (fun v45 => ?_)
        · skip
          have e44 : v44 = _ := (hd _ (.head _) (by kernel_rfl) : (IsV (.agg #[.bool (qneg y), .slice A5 n5 c5, .slice B5 m5 d5])) v44 wx)
          subst e44
          have e43 : v43 = _ := (hd _ (.tail _ (.head _)) (by kernel_rfl) : (IsV (.bool true)) v43 wx)
          subst e43
          clear hd
          intro KK hK
          go_simp
          refine (is_can (hcan.below hx.out) (by omega) (by omega)).mono ?_
          rintro e w' ⟨rfl, hb'⟩
          exact hK.out _ _ rfl hb'
        simp only [Act.put, List.setIfInBounds_toArray, List.set_cons_zero, List.set_cons_succ]
        refine Tab.cons IsV.lasting (fun wx hx hd => ?_) (fun v46 => ?_)
        · skip
          have e43 : v43 = _ := (hd _ (.tail _ (.tail _ (.head _))) (by kernel_rfl) : (IsV (.bool true)) v43 wx)
          subst e43
          have e45 : v45 = _ := (hd _ (.head _) (by kernel_rfl) : (IsV (.bool true)) v45 wx)
          subst e45
          clear hd
          intro KK hK
          go_simp
          exact hK.out _ _ rfl (Below.refl _ _)
        simp only [Act.put, List.setIfInBounds_toArray, List.set_cons_zero, List.set_cons_succ]
        refine Tab.cons IsV.lasting (fun wx hx hd => ?_) (fun v47 => ?_)
        · skip
          have e46 : v46 = _ := (hd _ (.head _) (by kernel_rfl) : (IsV (.bool true)) v46 wx)
          subst e46
          clear hd
          intro KK hK
          go_simp
          exact hK.out _ _ rfl (Below.refl _ _)
        simp only [Act.put, List.setIfInBounds_toArray, List.set_cons_zero, List.set_cons_succ]
        refine Tab.cons IsV.lasting (fun wx hx hd => ?_) (fun v48 => ?_)
        · skip
          have e47 : v47 = _ := (hd _ (.head _) (by kernel_rfl) : (IsV (.bool true)) v47 wx)
          subst e47
          clear hd
          intro KK hK
          have hcell := (Q5.out.later hx).cells
          go_simp
          exact hK.out _ _ rfl (Below.refl _ _)
        simp only [Act.put, List.setIfInBounds_toArray, List.set_cons_zero, List.set_cons_succ]
        refine Tab.cons IsV.lasting (fun wx hx hd => ?_) (fun v49 => ?_)
        · skip
          have e47 : v47 = _ := (hd _ (.tail _ (.head _)) (by kernel_rfl) : (IsV (.bool true)) v47 wx)
          subst e47
          clear hd
          intro KK hK
          have hcell := (Q2.out.later hx).cells
          go_simp
          exact hK.out _ _ rfl (Below.refl _ _)
        simp only [Act.put, List.setIfInBounds_toArray, List.set_cons_zero, List.set_cons_succ]
        refine Tab.cons IsQL.lasting (fun wx hx hd => ?_) (fun v50 => ?_)
        · skip
          have e48 : v48 = _ := (hd _ (.tail _ (.head _)) (by kernel_rfl) : (IsV (.agg #[.bool (qneg y), .slice A5 n5 c5, .slice B5 m5 d5])) v48 wx)
          subst e48
          have e49 : v49 = _ := (hd _ (.head _) (by kernel_rfl) : (IsV (.agg #[.bool s2, .slice A2 n2 c2, .slice B2 m2 d2])) v49 wx)
          subst e49
          have e47 : v47 = _ := (hd _ (.tail _ (.tail _ (.head _))) (by kernel_rfl) : (IsV (.bool true)) v47 wx)
          subst e47
          clear hd
          intro KK hK
          go_simp
          exact hK.out _ _ ⟨_, rfl, ql_two rfl (hcan.below hx.out).raw (r2.below hx.out) (by omega) (by omega)⟩ (below_alloc _ _)
        simp only [Act.put, List.setIfInBounds_toArray, List.set_cons_zero, List.set_cons_succ]
        refine Tab.cons IsQ.lasting (fun wx hx hd => ?_) (fun v51 => ?_)
        · skip
          obtain ⟨g50, rfl, h50⟩ := (hd _ (.head _) (by kernel_rfl) : (IsQL [y, b] 65) v50 wx)
          have e47 : v47 = _ := (hd _ (.tail _ (.tail _ (.tail _ (.head _)))) (by kernel_rfl) : (IsV (.bool true)) v47 wx)
          subst e47
          clear hd
          intro KK hK
          go_simp
          refine (qmul_pair h50 (by omega) (by omega)).mono ?_
          rintro e w' ⟨A', n', c', B', m', d', rfl, hc', hb'⟩
          exact hK.out _ _ ⟨A', n', c', B', m', d', rfl, hc'⟩ hb'
        simp only [Act.put, List.setIfInBounds_toArray, List.set_cons_zero, List.set_cons_succ]
        refine Tab.cons IsV.lasting (fun wx hx hd => ?_) (fun v52 => ?_)
        · skip
          have e47 : v47 = _ := (hd _ (.tail _ (.tail _ (.tail _ (.tail _ (.head _))))) (by kernel_rfl) : (IsV (.bool true)) v47 wx)
          subst e47
          clear hd
          intro KK hK
          have hcell := (Q1.out.later hx).cells
          go_simp
          exact hK.out _ _ rfl (Below.refl _ _)
        simp only [Act.put, List.setIfInBounds_toArray, List.set_cons_zero, List.set_cons_succ]
        refine Tab.cons IsQ.lasting (fun wx hx hd => ?_) (fun v53 => ?_)
        · skip
          have e52 : v52 = _ := (hd _ (.head _) (by kernel_rfl) : (IsV (.agg #[.bool s1, .slice A1 n1 c1, .slice B1 m1 d1])) v52 wx)
          subst e52
          have e47 : v47 = _ := (hd _ (.tail _ (.tail _ (.tail _ (.tail _ (.tail _ (.head _)))))) (by kernel_rfl) : (IsV (.bool true)) v47 wx)
          subst e47
          clear hd
          intro KK hK
          go_simp
          refine (trim_q _ _ _ _ _ _ _ _ 16 _ (r1.below hx.out) (by omega) (by omega)).mono ?_
          rintro e w' ⟨A', n', c', B', m', d', rfl, hc', hb'⟩
          exact hK.out _ _ ⟨A', n', c', B', m', d', rfl, hc'⟩ hb'
        simp only [Act.put, List.setIfInBounds_toArray, List.set_cons_zero, List.set_cons_succ]
        refine Tab.cons IsV.lasting (fun wx hx hd => ?_) (fun v54 => ?_)
        · skip
          obtain ⟨A51, n51, c51, B51, m51, d51, rfl, h51⟩ := (hd _ (.tail _ (.tail _ (.head _))) (by kernel_rfl) : (IsQ (y * b) 131) v51 wx)
          obtain ⟨A53, n53, c53, B53, m53, d53, rfl, h53⟩ := (hd _ (.head _) (by kernel_rfl) : (IsQ (a) 16) v53 wx)
          have e47 : v47 = _ := (hd _ (.tail _ (.tail _ (.tail _ (.tail _ (.tail _ (.tail _ (.head _))))))) (by kernel_rfl) : (IsV (.bool true)) v47 wx)
          subst e47
          clear hd
          intro KK hK
          go_simp
          refine (same_q_yes h51 h53 H1.out).mono ?_
          rintro e w' ⟨rfl, hb'⟩
          exact hK.out _ _ rfl hb'
        simp only [Act.put, List.setIfInBounds_toArray, List.set_cons_zero, List.set_cons_succ]
        refine Tab.cons IsV.lasting (fun wx hx hd => ?_) (fun v55 => ?_)
        · skip
          have e47 : v47 = _ := (hd _ (.tail _ (.tail _ (.tail _ (.tail _ (.tail _ (.tail _ (.tail _ (.head _)))))))) (by kernel_rfl) : (IsV (.bool true)) v47 wx)
          subst e47
          have e54 : v54 = _ := (hd _ (.head _) (by kernel_rfl) : (IsV (.bool true)) v54 wx)
          subst e54
          clear hd
          intro KK hK
          go_simp
          exact hK.out _ _ rfl (Below.refl _ _)
        simp only [Act.put, List.setIfInBounds_toArray, List.set_cons_zero, List.set_cons_succ]
        refine Tab.cons IsV.lasting (fun wx hx hd => ?_) (fun v56 => ?_)
        · skip
          have e55 : v55 = _ := (hd _ (.head _) (by kernel_rfl) : (IsV (.bool true)) v55 wx)
          subst e55
          clear hd
          intro KK hK
          go_simp
          exact hK.out _ _ rfl (Below.refl _ _)
        simp only [Act.put, List.setIfInBounds_toArray, List.set_cons_zero, List.set_cons_succ]
        refine Tab.cons IsV.lasting (fun wx hx hd => ?_) (fun v57 => ?_)
        · skip
          have e56 : v56 = _ := (hd _ (.head _) (by kernel_rfl) : (IsV (.bool true)) v56 wx)
          subst e56
          clear hd
          intro KK hK
          have hcell := (Q8.out.later hx).cells
          go_simp
          exact hK.out _ _ rfl (Below.refl _ _)
        simp only [Act.put, List.setIfInBounds_toArray, List.set_cons_zero, List.set_cons_succ]
        refine Tab.cons IsV.lasting (fun wx hx hd => ?_) (fun v58 => ?_)
        · skip
          have e56 : v56 = _ := (hd _ (.tail _ (.head _)) (by kernel_rfl) : (IsV (.bool true)) v56 wx)
          subst e56
          clear hd
          intro KK hK
          have hcell := (Q1.out.later hx).cells
          go_simp
          exact hK.out _ _ rfl (Below.refl _ _)
        simp only [Act.put, List.setIfInBounds_toArray, List.set_cons_zero, List.set_cons_succ]
        refine Tab.cons IsQ.lasting (fun wx hx hd => ?_) (fun v59 => ?_)
        · skip
          have e58 : v58 = _ := (hd _ (.head _) (by kernel_rfl) : (IsV (.agg #[.bool s1, .slice A1 n1 c1, .slice B1 m1 d1])) v58 wx)
          subst e58
          have e56 : v56 = _ := (hd _ (.tail _ (.tail _ (.head _))) (by kernel_rfl) : (IsV (.bool true)) v56 wx)
          subst e56
          clear hd
          intro KK hK
          go_simp
          refine (trim_q _ _ _ _ _ _ _ _ 16 _ (r1.below hx.out) (by omega) (by omega)).mono ?_
          rintro e w' ⟨A', n', c', B', m', d', rfl, hc', hb'⟩
          exact hK.out _ _ ⟨A', n', c', B', m', d', rfl, hc'⟩ hb'
        simp only [Act.put, List.setIfInBounds_toArray, List.set_cons_zero, List.set_cons_succ]
        refine Tab.cons IsV.lasting (fun wx hx hd => ?_) (fun v60 => ?_)
        · skip
          have e57 : v57 = _ := (hd _ (.tail _ (.tail _ (.head _))) (by kernel_rfl) : (IsV (.agg #[.bool (qneg a), .slice A8 n8 c8, .slice B8 m8 d8])) v57 wx)
          subst e57
          obtain ⟨A59, n59, c59, B59, m59, d59, rfl, h59⟩ := (hd _ (.head _) (by kernel_rfl) : (IsQ (a) 16) v59 wx)
          have e56 : v56 = _ := (hd _ (.tail _ (.tail _ (.tail _ (.head _)))) (by kernel_rfl) : (IsV (.bool true)) v56 wx)
          subst e56
          clear hd
          intro KK hK
          go_simp
          refine (same_q_yes (hcan8.below hx.out) h59 rfl).mono ?_
          rintro e w' ⟨rfl, hb'⟩
          exact hK.out _ _ rfl hb'
        simp only [Act.put, List.setIfInBounds_toArray, List.set_cons_zero, List.set_cons_succ]
        refine Tab.cons IsV.lasting (fun wx hx hd => ?_) (fun v61 => ?_)
        · skip
          have e56 : v56 = _ := (hd _ (.tail _ (.tail _ (.tail _ (.tail _ (.head _))))) (by kernel_rfl) : (IsV (.bool true)) v56 wx)
          subst e56
          have e60 : v60 = _ := (hd _ (.head _) (by kernel_rfl) : (IsV (.bool true)) v60 wx)
          subst e60
          clear hd
          intro KK hK
          go_simp
          exact hK.out _ _ rfl (Below.refl _ _)
        simp only [Act.put, List.setIfInBounds_toArray, List.set_cons_zero, List.set_cons_succ]
        refine Tab.cons IsV.lasting (fun wx hx hd => ?_) (fun v4 => ?_)
        · skip
          have e61 : v61 = _ := (hd _ (.head _) (by kernel_rfl) : (IsV (.bool true)) v61 wx)
          subst e61
          clear hd
          intro KK hK
          go_simp
          exact hK.out _ _ rfl (Below.refl _ _)
        simp only [Act.put, List.setIfInBounds_toArray, List.set_cons_zero, List.set_cons_succ]
        refine Tab.nil fun wx hx hd => ?_
        have e4 : v4 = _ := (hd _ (.head _) : (IsV (.bool true)) v4 wx)
        subst e4
        clear hd
        go_wp2
        go_ret
        exact ⟨by rfl, below_step hx.out hB⟩
end Go.Proofs.Ytlomanhmpbapeaa
