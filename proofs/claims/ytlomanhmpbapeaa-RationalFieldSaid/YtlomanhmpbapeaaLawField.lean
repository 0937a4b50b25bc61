/- The walk of the law RationalField. -/
import Derived.Test.YtlomanhmpbapeaaRatDiv
namespace Go.Proofs.Ytlomanhmpbapeaa
open Go.RowKit

set_option maxHeartbeats 8000000 in
set_option maxRecDepth 10000 in
theorem law_RationalField (w : World) (s1 : Bool) (A1 : Option Addr) (n1 c1 : Nat) (x1 : List Nat) (B1 : Option Addr) (m1 d1 : Nat) (y1 : List Nat) (g1 : Rd w A1 n1 c1 x1) (sA1 : n1 ≤ 35184372088832) (g1' : Rd w B1 m1 d1 y1) (sB1 : m1 ≤ 35184372088832) (s2 : Bool) (A2 : Option Addr) (n2 c2 : Nat) (x2 : List Nat) (B2 : Option Addr) (m2 d2 : Nat) (y2 : List Nat) (g2 : Rd w A2 n2 c2 x2) (sA2 : n2 ≤ 35184372088832) (g2' : Rd w B2 m2 d2 y2) (sB2 : m2 ≤ 35184372088832) (s3 : Bool) (A3 : Option Addr) (n3 c3 : Nat) (x3 : List Nat) (B3 : Option Addr) (m3 d3 : Nat) (y3 : List Nat) (g3 : Rd w A3 n3 c3 x3) (sA3 : n3 ≤ 35184372088832) (g3' : Rd w B3 m3 d3 y3) (sB3 : m3 ≤ 35184372088832) :
    Calls Try.prog 12 #[.agg #[.bool s1, .slice A1 n1 c1, .slice B1 m1 d1], .agg #[.bool s2, .slice A2 n2 c2, .slice B2 m2 d2], .agg #[.bool s3, .slice A3 n3 c3, .slice B3 m3 d3]] w (Makes (.bool true) w) := by
  obtain ⟨W0, hW, hS, q1, q2, q3⟩ := boxesP3 w s1 A1 n1 c1 B1 m1 d1 s2 A2 n2 c2 B2 m2 d2 s3 A3 n3 c3 B3 m3 d3
  have e1 := g1.below hS
  have e1' := g1'.below hS
  have e2 := g2.below hS
  have e2' := g2'.below hS
  have e3 := g3.below hS
  have e3' := g3'.below hS
  have hlist := rawl_three (s := s1) (t := s2) (u := s3) (g := w.heap.size + 1 + 1 + 1) (by rw [hW]; simp) e1 e1' e2 e2' e3 e3'
  have hcall := longq_any 12 _ 3 3 _ _ hlist (by
    intro t ht
    simp only [List.mem_cons, List.not_mem_nil, or_false] at ht
    rcases ht with rfl | rfl | rfl
    · exact ⟨by rw [e1.len]; exact sA1, by rw [e1'.len]; exact sB1⟩
    · exact ⟨by rw [e2.len]; exact sA2, by rw [e2'.len]; exact sB2⟩
    · exact ⟨by rw [e3.len]; exact sA3, by rw [e3'.len]; exact sB3⟩) (by omega)
  have hB2 := below_step (below_alloc W0 (.cells #[.bool s1, .slice A1 n1 c1, .slice B1 m1 d1, .bool s2, .slice A2 n2 c2, .slice B2 m2 d2, .bool s3, .slice A3 n3 c3, .slice B3 m3 d3] 25)) hS
  have HW := hide hW
  have HCALL := hide hcall
  have q1b := q1.below (below_alloc W0 (.cells #[.bool s1, .slice A1 n1 c1, .slice B1 m1 d1, .bool s2, .slice A2 n2 c2, .slice B2 m2 d2, .bool s3, .slice A3 n3 c3, .slice B3 m3 d3] 25))
  have hc1 := q1.cells
  have q2b := q2.below (below_alloc W0 (.cells #[.bool s1, .slice A1 n1 c1, .slice B1 m1 d1, .bool s2, .slice A2 n2 c2, .slice B2 m2 d2, .bool s3, .slice A3 n3 c3, .slice B3 m3 d3] 25))
  have hc2 := q2.cells
  have q3b := q3.below (below_alloc W0 (.cells #[.bool s1, .slice A1 n1 c1, .slice B1 m1 d1, .bool s2, .slice A2 n2 c2, .slice B2 m2 d2, .bool s3, .slice A3 n3 c3, .slice B3 m3 d3] 25))
  have hc3 := q3.cells
  replace e1 := e1.below (below_alloc W0 (.cells #[.bool s1, .slice A1 n1 c1, .slice B1 m1 d1, .bool s2, .slice A2 n2 c2, .slice B2 m2 d2, .bool s3, .slice A3 n3 c3, .slice B3 m3 d3] 25))
  replace e1' := e1'.below (below_alloc W0 (.cells #[.bool s1, .slice A1 n1 c1, .slice B1 m1 d1, .bool s2, .slice A2 n2 c2, .slice B2 m2 d2, .bool s3, .slice A3 n3 c3, .slice B3 m3 d3] 25))
  replace e2 := e2.below (below_alloc W0 (.cells #[.bool s1, .slice A1 n1 c1, .slice B1 m1 d1, .bool s2, .slice A2 n2 c2, .slice B2 m2 d2, .bool s3, .slice A3 n3 c3, .slice B3 m3 d3] 25))
  replace e2' := e2'.below (below_alloc W0 (.cells #[.bool s1, .slice A1 n1 c1, .slice B1 m1 d1, .bool s2, .slice A2 n2 c2, .slice B2 m2 d2, .bool s3, .slice A3 n3 c3, .slice B3 m3 d3] 25))
  replace e3 := e3.below (below_alloc W0 (.cells #[.bool s1, .slice A1 n1 c1, .slice B1 m1 d1, .bool s2, .slice A2 n2 c2, .slice B2 m2 d2, .bool s3, .slice A3 n3 c3, .slice B3 m3 d3] 25))
  replace e3' := e3'.below (below_alloc W0 (.cells #[.bool s1, .slice A1 n1 c1, .slice B1 m1 d1, .bool s2, .slice A2 n2 c2, .slice B2 m2 d2, .bool s3, .slice A3 n3 c3, .slice B3 m3 d3] 25))
  clear hW hcall hlist sA1 sB1 g1 g1' q1 sA2 sB2 g2 g2' q2 sA3 sB3 g3 g3' q3
  go_enter Try.func12, Try.ntmps12
  go_wp2_with fail
  rw [← HW.out]
  refine HCALL.out.mono ?_
  rintro e w1 ⟨rfl, hb1⟩
  cases hlong : anyLongQ 12 [(s1, x1, y1), (s2, x2, y2), (s3, x3, y3)] with
  | true =>
    clear hlong hc1 hc2 hc3
    go_wp2
    go_ret
    exact ⟨rfl, below_step hb1 hB2⟩
  | false =>
    have hnm1 : n1 + m1 ≤ 12 := by
      have := anyLongQ_false hlong (s1, x1, y1) (by simp)
      rw [e1.len, e1'.len] at this
      exact this
    have hnm2 : n2 + m2 ≤ 12 := by
      have := anyLongQ_false hlong (s2, x2, y2) (by simp)
      rw [e2.len, e2'.len] at this
      exact this
    have hnm3 : n3 + m3 ≤ 12 := by
      have := anyLongQ_false hlong (s3, x3, y3) (by simp)
      rw [e3.len, e3'.len] at this
      exact this
    have hB := below_step hb1 hB2
    have q1c := q1b.below hb1
    have k1 := e1.below hb1
    have k1' := e1'.below hb1
    have q2c := q2b.below hb1
    have k2 := e2.below hb1
    have k2' := e2'.below hb1
    have q3c := q3b.below hb1
    have k3 := e3.below hb1
    have k3' := e3'.below hb1
    clear hlong hb1 hB2 hS HCALL HW hc1 e1 e1' q1b hc2 e2 e2' q2b hc3 e3 e3' q3b
    clear W0
    obtain ⟨W, hW⟩ : ∃ W : World, W = w1 := ⟨_, rfl⟩
    subst hW
    obtain ⟨a, hq1⟩ : ∃ q, q = ratOf s1 (val x1) (val y1) := ⟨_, rfl⟩
    have r1 : RawQ W s1 A1 n1 c1 B1 m1 d1 a 12 := ⟨⟨x1, y1, k1, k1', hq1.symm⟩, by omega, by omega⟩
    have Q1 := hide q1c
    have hc1 := q1c.cells
    obtain ⟨b, hq2⟩ : ∃ q, q = ratOf s2 (val x2) (val y2) := ⟨_, rfl⟩
    have r2 : RawQ W s2 A2 n2 c2 B2 m2 d2 b 12 := ⟨⟨x2, y2, k2, k2', hq2.symm⟩, by omega, by omega⟩
    have Q2 := hide q2c
    have hc2 := q2c.cells
    obtain ⟨c, hq3⟩ : ∃ q, q = ratOf s3 (val x3) (val y3) := ⟨_, rfl⟩
    have r3 : RawQ W s3 A3 n3 c3 B3 m3 d3 c 12 := ⟨⟨x3, y3, k3, k3', hq3.symm⟩, by omega, by omega⟩
    have Q3 := hide q3c
    have hc3 := q3c.cells
    clear hq1 q1c k1 k1' hnm1 hq2 q2c k2 k2' hnm2 hq3 q3c k3 k3' hnm3
    have hF := From.refl W
    obtain ⟨V, hV, hSV, q7, r7⟩ := lit_rat W 1 2 1 2 rfl rfl (by omega) (by omega) (by omega) (by omega)
    have HV := hide hV
    clear hV
    go_wp2_with fail
    rw [← HV.out]
    replace hF : From W V := From.step hF hSV
    replace Q1 := hide (Q1.out.later hF)
    replace Q2 := hide (Q2.out.later hF)
    replace Q3 := hide (Q3.out.later hF)
    replace r1 := r1.below hSV
    replace r2 := r2.below hSV
    replace r3 := r3.below hSV
    replace hB := below_step hSV hB
    obtain ⟨A7, hA7⟩ : ∃ A7, A7 = some (⟨W.heap.size, 0, none⟩ : Addr) := ⟨_, rfl⟩
    obtain ⟨B7, hB7⟩ : ∃ A7, A7 = some (⟨W.heap.size + 1, 0, none⟩ : Addr) := ⟨_, rfl⟩
    rw [← hA7, ← hB7] at r7 q7
    obtain ⟨g7, hg7⟩ : ∃ g7, g7 = W.heap.size + 1 + 1 := ⟨_, rfl⟩
    rw [← hg7] at q7 ⊢
    have Q7 := hide q7
    obtain ⟨half, hh⟩ : ∃ q, q = ratOf false 1 2 := ⟨_, rfl⟩
    rw [← hh] at r7
    have HH : Hid (half + half = 1) := by
      rw [Hid, hh]
      simp only [ratOf, sgn, Rat.mkRat_eq_div]
      grind
    clear hA7 hB7 hg7 q7 hh hSV hF HV hc1 hc2 hc3
    obtain ⟨W, hW⟩ : ∃ W : World, W = V := ⟨_, rfl⟩
    subst hW
    have hF := From.refl W
    refine wp_region_tab 33 134 [IsV (.agg #[.bool false, .slice A7 1 1, .slice B7 1 1]), IsV (.agg #[.bool false, .slice A7 1 1, .slice B7 1 1]), IsQL [half, half] 1, IsQ (half + half) 5, IsN 1 1, IsN 1 1, IsQ (1 : Rat) 1, IsV (.bool true), IsV (.bool false), IsV (.bool false), IsV (.agg #[.bool s1, .slice A1 n1 c1, .slice B1 m1 d1]), IsV (.agg #[.bool s2, .slice A2 n2 c2, .slice B2 m2 d2]), IsQL [a, b] 12, IsQ (a + b) 27, IsV (.agg #[.bool s2, .slice A2 n2 c2, .slice B2 m2 d2]), IsV (.agg #[.bool s1, .slice A1 n1 c1, .slice B1 m1 d1]), IsQL [b, a] 12, IsQ (b + a) 27, IsV (.bool true), IsV (.bool false), IsV (.bool false), IsV (.bool false), IsV (.agg #[.bool s1, .slice A1 n1 c1, .slice B1 m1 d1]), IsV (.agg #[.bool s2, .slice A2 n2 c2, .slice B2 m2 d2]), IsQL [a, b] 12, IsQ (a * b) 25, IsV (.agg #[.bool s2, .slice A2 n2 c2, .slice B2 m2 d2]), IsV (.agg #[.bool s1, .slice A1 n1 c1, .slice B1 m1 d1]), IsQL [b, a] 12, IsQ (b * a) 25, IsV (.bool true), IsV (.bool false), IsV (.bool false)] (From W) (by kernel_rfl) (by kernel_rfl) (by kernel_rfl) rfl From.lasting (From.drew hF) ?_
    simp only [List.take_succ_cons, List.drop_succ_cons, List.take_nil, List.drop_nil]
    refine Tab.cons IsV.lasting (fun wx hx hd => ?_) (fun v16 => ?_)
    · skip
      clear hd
      intro KK hK
      have hcell := (Q7.out.later hx).cells
      go_simp
      exact hK.out _ _ rfl (Below.refl _ _)
    simp only [Act.put, List.setIfInBounds_toArray, List.set_cons_zero, List.set_cons_succ]
    refine Tab.cons IsV.lasting (fun wx hx hd => ?_) (fun v17 => ?_)
    · skip
      clear hd
      intro KK hK
      have hcell := (Q7.out.later hx).cells
      go_simp
      exact hK.out _ _ rfl (Below.refl _ _)
    simp only [Act.put, List.setIfInBounds_toArray, List.set_cons_zero, List.set_cons_succ]
    refine Tab.cons IsQL.lasting (fun wx hx hd => ?_) (fun v18 => ?_)
    · skip
      have e16 : v16 = _ := (hd _ (.tail _ (.head _)) (by kernel_rfl) : (IsV (.agg #[.bool false, .slice A7 1 1, .slice B7 1 1])) v16 wx)
      subst e16
      have e17 : v17 = _ := (hd _ (.head _) (by kernel_rfl) : (IsV (.agg #[.bool false, .slice A7 1 1, .slice B7 1 1])) v17 wx)
      subst e17
      clear hd
      intro KK hK
      go_simp
      exact hK.out _ _ ⟨_, rfl, ql_two rfl (r7.below hx.out) (r7.below hx.out) (by omega) (by omega)⟩ (below_alloc _ _)
    simp only [Act.put, List.setIfInBounds_toArray, List.set_cons_zero, List.set_cons_succ]
    refine Tab.cons IsQ.lasting (fun wx hx hd => ?_) (fun v19 => ?_)
    · skip
      obtain ⟨g18, rfl, h18⟩ := (hd _ (.head _) (by kernel_rfl) : (IsQL [half, half] 1) v18 wx)
      clear hd
      intro KK hK
      go_simp
      refine (qadd_pair h18 (by omega) (by omega)).mono ?_
      rintro e w' ⟨A', n', c', B', m', d', rfl, hc', hb'⟩
      exact hK.out _ _ ⟨A', n', c', B', m', d', rfl, hc'⟩ hb'
    simp only [Act.put, List.setIfInBounds_toArray, List.set_cons_zero, List.set_cons_succ]
    refine Tab.cons IsN.lasting (fun wx hx hd => ?_) (fun v20 => ?_)
    · skip
      clear hd
      intro KK hK
      go_simp
      exact hK.out _ _ ⟨_, _, _, rfl, rd_lit1 _ rfl _ rfl (by omega) (by omega), Nat.le_refl _⟩ (below_alloc _ _)
    simp only [Act.put, List.setIfInBounds_toArray, List.set_cons_zero, List.set_cons_succ]
    refine Tab.cons IsN.lasting (fun wx hx hd => ?_) (fun v21 => ?_)
    · skip
      clear hd
      intro KK hK
      go_simp
      exact hK.out _ _ ⟨_, _, _, rfl, rd_lit1 _ rfl _ rfl (by omega) (by omega), Nat.le_refl _⟩ (below_alloc _ _)
    simp only [Act.put, List.setIfInBounds_toArray, List.set_cons_zero, List.set_cons_succ]
    refine Tab.cons IsQ.lasting (fun wx hx hd => ?_) (fun v22 => ?_)
    · skip
      obtain ⟨A20, n20, c20, rfl, h20, k20⟩ := (hd _ (.tail _ (.head _)) (by kernel_rfl) : (IsN 1 1) v20 wx)
      obtain ⟨A21, n21, c21, rfl, h21, k21⟩ := (hd _ (.head _) (by kernel_rfl) : (IsN 1 1) v21 wx)
      clear hd
      intro KK hK
      go_simp
      exact hK.out _ _ ⟨_, _, _, _, _, _, rfl, ⟨h20, h21, k20, k21⟩⟩ (Below.refl _ _)
    simp only [Act.put, List.setIfInBounds_toArray, List.set_cons_zero, List.set_cons_succ]
    refine Tab.cons IsV.lasting (fun wx hx hd => ?_) (fun v23 => ?_)
    · skip
      obtain ⟨A19, n19, c19, B19, m19, d19, rfl, h19⟩ := (hd _ (.tail _ (.tail _ (.tail _ (.head _)))) (by kernel_rfl) : (IsQ (half + half) 5) v19 wx)
      obtain ⟨A22, n22, c22, B22, m22, d22, rfl, h22⟩ := (hd _ (.head _) (by kernel_rfl) : (IsQ (1 : Rat) 1) v22 wx)
      clear hd
      intro KK hK
      go_simp
      refine (same_q_yes h19 h22 HH.out).mono ?_
      rintro e w' ⟨rfl, hb'⟩
      exact hK.out _ _ rfl hb'
    simp only [Act.put, List.setIfInBounds_toArray, List.set_cons_zero, List.set_cons_succ]
    refine Tab.cons IsV.lasting (fun wx hx hd => ?_) (fun v24 => ?_)
    · skip
      have e23 : v23 = _ := (hd _ (.head _) (by kernel_rfl) : (IsV (.bool true)) v23 wx)
      subst e23
      clear hd
      intro KK hK
      go_simp
      exact hK.out _ _ rfl (Below.refl _ _)
    simp only [Act.put, List.setIfInBounds_toArray, List.set_cons_zero, List.set_cons_succ]
    refine Tab.cons IsV.lasting (fun wx hx hd => ?_) (fun v25 => ?_)
    · skip
      have e24 : v24 = _ := (hd _ (.head _) (by kernel_rfl) : (IsV (.bool false)) v24 wx)
      subst e24
      clear hd
      intro KK hK
      go_simp
      exact hK.out _ _ rfl (Below.refl _ _)
    simp only [Act.put, List.setIfInBounds_toArray, List.set_cons_zero, List.set_cons_succ]
    refine Tab.cons IsV.lasting (fun wx hx hd => ?_) (fun v26 => ?_)
    · skip
      have e25 : v25 = _ := (hd _ (.head _) (by kernel_rfl) : (IsV (.bool false)) v25 wx)
      subst e25
      clear hd
      intro KK hK
      have hcell := (Q1.out.later hx).cells
      go_simp
      exact hK.out _ _ rfl (Below.refl _ _)
    simp only [Act.put, List.setIfInBounds_toArray, List.set_cons_zero, List.set_cons_succ]
    refine Tab.cons IsV.lasting (fun wx hx hd => ?_) (fun v27 => ?_)
    · skip
      have e25 : v25 = _ := (hd _ (.tail _ (.head _)) (by kernel_rfl) : (IsV (.bool false)) v25 wx)
      subst e25
      clear hd
      intro KK hK
      have hcell := (Q2.out.later hx).cells
      go_simp
      exact hK.out _ _ rfl (Below.refl _ _)
    simp only [Act.put, List.setIfInBounds_toArray, List.set_cons_zero, List.set_cons_succ]
    refine Tab.cons IsQL.lasting (fun wx hx hd => ?_) (fun v28 => ?_)
    · skip
      have e26 : v26 = _ := (hd _ (.tail _ (.head _)) (by kernel_rfl) : (IsV (.agg #[.bool s1, .slice A1 n1 c1, .slice B1 m1 d1])) v26 wx)
      subst e26
      have e27 : v27 = _ := (hd _ (.head _) (by kernel_rfl) : (IsV (.agg #[.bool s2, .slice A2 n2 c2, .slice B2 m2 d2])) v27 wx)
      subst e27
      have e25 : v25 = _ := (hd _ (.tail _ (.tail _ (.head _))) (by kernel_rfl) : (IsV (.bool false)) v25 wx)
      subst e25
      clear hd
      intro KK hK
      go_simp
      exact hK.out _ _ ⟨_, rfl, ql_two rfl (r1.below hx.out) (r2.below hx.out) (by omega) (by omega)⟩ (below_alloc _ _)
    simp only [Act.put, List.setIfInBounds_toArray, List.set_cons_zero, List.set_cons_succ]
    refine Tab.cons IsQ.lasting (fun wx hx hd => ?_) (fun v29 => ?_)
    · skip
      obtain ⟨g28, rfl, h28⟩ := (hd _ (.head _) (by kernel_rfl) : (IsQL [a, b] 12) v28 wx)
      have e25 : v25 = _ := (hd _ (.tail _ (.tail _ (.tail _ (.head _)))) (by kernel_rfl) : (IsV (.bool false)) v25 wx)
      subst e25
      clear hd
      intro KK hK
      go_simp
      refine (qadd_pair h28 (by omega) (by omega)).mono ?_
      rintro e w' ⟨A', n', c', B', m', d', rfl, hc', hb'⟩
      exact hK.out _ _ ⟨A', n', c', B', m', d', rfl, hc'⟩ hb'
    simp only [Act.put, List.setIfInBounds_toArray, List.set_cons_zero, List.set_cons_succ]
    refine Tab.cons IsV.lasting (fun wx hx hd => ?_) (fun v30 => ?_)
    · skip
      have e25 : v25 = _ := (hd _ (.tail _ (.tail _ (.tail _ (.tail _ (.head _))))) (by kernel_rfl) : (IsV (.bool false)) v25 wx)
      subst e25
      clear hd
      intro KK hK
      have hcell := (Q2.out.later hx).cells
      go_simp
      exact hK.out _ _ rfl (Below.refl _ _)
    simp only [Act.put, List.setIfInBounds_toArray, List.set_cons_zero, List.set_cons_succ]
    refine Tab.cons IsV.lasting (fun wx hx hd => ?_) (fun v31 => ?_)
    · skip
      have e25 : v25 = _ := (hd _ (.tail _ (.tail _ (.tail _ (.tail _ (.tail _ (.head _)))))) (by kernel_rfl) : (IsV (.bool false)) v25 wx)
      subst e25
      clear hd
      intro KK hK
      have hcell := (Q1.out.later hx).cells
      go_simp
      exact hK.out _ _ rfl (Below.refl _ _)
    simp only [Act.put, List.setIfInBounds_toArray, List.set_cons_zero, List.set_cons_succ]
    refine Tab.cons IsQL.lasting (fun wx hx hd => ?_) (fun v32 => ?_)
    · skip
      have e30 : v30 = _ := (hd _ (.tail _ (.head _)) (by kernel_rfl) : (IsV (.agg #[.bool s2, .slice A2 n2 c2, .slice B2 m2 d2])) v30 wx)
      subst e30
      have e31 : v31 = _ := (hd _ (.head _) (by kernel_rfl) : (IsV (.agg #[.bool s1, .slice A1 n1 c1, .slice B1 m1 d1])) v31 wx)
      subst e31
      have e25 : v25 = _ := (hd _ (.tail _ (.tail _ (.tail _ (.tail _ (.tail _ (.tail _ (.head _))))))) (by kernel_rfl) : (IsV (.bool false)) v25 wx)
      subst e25
      clear hd
      intro KK hK
      go_simp
      exact hK.out _ _ ⟨_, rfl, ql_two rfl (r2.below hx.out) (r1.below hx.out) (by omega) (by omega)⟩ (below_alloc _ _)
    simp only [Act.put, List.setIfInBounds_toArray, List.set_cons_zero, List.set_cons_succ]
    refine Tab.cons IsQ.lasting (fun wx hx hd => ?_) (fun v33 => ?_)
    · skip
      obtain ⟨g32, rfl, h32⟩ := (hd _ (.head _) (by kernel_rfl) : (IsQL [b, a] 12) v32 wx)
      have e25 : v25 = _ := (hd _ (.tail _ (.tail _ (.tail _ (.tail _ (.tail _ (.tail _ (.tail _ (.head _)))))))) (by kernel_rfl) : (IsV (.bool false)) v25 wx)
      subst e25
      clear hd
      intro KK hK
      go_simp
      refine (qadd_pair h32 (by omega) (by omega)).mono ?_
      rintro e w' ⟨A', n', c', B', m', d', rfl, hc', hb'⟩
      exact hK.out _ _ ⟨A', n', c', B', m', d', rfl, hc'⟩ hb'
    simp only [Act.put, List.setIfInBounds_toArray, List.set_cons_zero, List.set_cons_succ]
    refine Tab.cons IsV.lasting (fun wx hx hd => ?_) (fun v34 => ?_)
    · skip
      obtain ⟨A29, n29, c29, B29, m29, d29, rfl, h29⟩ := (hd _ (.tail _ (.tail _ (.tail _ (.tail _ (.head _))))) (by kernel_rfl) : (IsQ (a + b) 27) v29 wx)
      obtain ⟨A33, n33, c33, B33, m33, d33, rfl, h33⟩ := (hd _ (.head _) (by kernel_rfl) : (IsQ (b + a) 27) v33 wx)
      have e25 : v25 = _ := (hd _ (.tail _ (.tail _ (.tail _ (.tail _ (.tail _ (.tail _ (.tail _ (.tail _ (.head _))))))))) (by kernel_rfl) : (IsV (.bool false)) v25 wx)
      subst e25
      clear hd
      intro KK hK
      go_simp
      refine (same_q_yes h29 h33 (Rat.add_comm a b)).mono ?_
      rintro e w' ⟨rfl, hb'⟩
      exact hK.out _ _ rfl hb'
    simp only [Act.put, List.setIfInBounds_toArray, List.set_cons_zero, List.set_cons_succ]
    refine Tab.cons IsV.lasting (fun wx hx hd => ?_) (fun v35 => ?_)
    · skip
      have e34 : v34 = _ := (hd _ (.head _) (by kernel_rfl) : (IsV (.bool true)) v34 wx)
      subst e34
      have e25 : v25 = _ := (hd _ (.tail _ (.tail _ (.tail _ (.tail _ (.tail _ (.tail _ (.tail _ (.tail _ (.tail _ (.head _)))))))))) (by kernel_rfl) : (IsV (.bool false)) v25 wx)
      subst e25
      clear hd
      intro KK hK
      go_simp
      exact hK.out _ _ rfl (Below.refl _ _)
    simp only [Act.put, List.setIfInBounds_toArray, List.set_cons_zero, List.set_cons_succ]
    refine Tab.cons IsV.lasting (fun wx hx hd => ?_) (fun v36 => ?_)
    · skip
      have e25 : v25 = _ := (hd _ (.tail _ (.tail _ (.tail _ (.tail _ (.tail _ (.tail _ (.tail _ (.tail _ (.tail _ (.tail _ (.head _))))))))))) (by kernel_rfl) : (IsV (.bool false)) v25 wx)
      subst e25
      have e35 : v35 = _ := (hd _ (.head _) (by kernel_rfl) : (IsV (.bool false)) v35 wx)
      subst e35
      clear hd
      intro KK hK
      go_simp
      exact hK.out _ _ rfl (Below.refl _ _)
    simp only [Act.put, List.setIfInBounds_toArray, List.set_cons_zero, List.set_cons_succ]
    refine Tab.cons IsV.lasting (fun wx hx hd => ?_) (fun v37 => ?_)
    · skip
      have e36 : v36 = _ := (hd _ (.head _) (by kernel_rfl) : (IsV (.bool false)) v36 wx)
      subst e36
      clear hd
      intro KK hK
      go_simp
      exact hK.out _ _ rfl (Below.refl _ _)
    simp only [Act.put, List.setIfInBounds_toArray, List.set_cons_zero, List.set_cons_succ]
    refine Tab.cons IsV.lasting (fun wx hx hd => ?_) (fun v38 => ?_)
    · skip
      have e37 : v37 = _ := (hd _ (.head _) (by kernel_rfl) : (IsV (.bool false)) v37 wx)
      subst e37
      clear hd
      intro KK hK
      have hcell := (Q1.out.later hx).cells
      go_simp
      exact hK.out _ _ rfl (Below.refl _ _)
    simp only [Act.put, List.setIfInBounds_toArray, List.set_cons_zero, List.set_cons_succ]
    refine Tab.cons IsV.lasting (fun wx hx hd => ?_) (fun v39 => ?_)
    · skip
      have e37 : v37 = _ := (hd _ (.tail _ (.head _)) (by kernel_rfl) : (IsV (.bool false)) v37 wx)
      subst e37
      clear hd
      intro KK hK
      have hcell := (Q2.out.later hx).cells
      go_simp
      exact hK.out _ _ rfl (Below.refl _ _)
    simp only [Act.put, List.setIfInBounds_toArray, List.set_cons_zero, List.set_cons_succ]
    refine Tab.cons IsQL.lasting (fun wx hx hd => ?_) (fun v40 => ?_)
    · skip
      have e38 : v38 = _ := (hd _ (.tail _ (.head _)) (by kernel_rfl) : (IsV (.agg #[.bool s1, .slice A1 n1 c1, .slice B1 m1 d1])) v38 wx)
      subst e38
      have e39 : v39 = _ := (hd _ (.head _) (by kernel_rfl) : (IsV (.agg #[.bool s2, .slice A2 n2 c2, .slice B2 m2 d2])) v39 wx)
      subst e39
      have e37 : v37 = _ := (hd _ (.tail _ (.tail _ (.head _))) (by kernel_rfl) : (IsV (.bool false)) v37 wx)
      subst e37
      clear hd
      intro KK hK
      go_simp
      exact hK.out _ _ ⟨_, rfl, ql_two rfl (r1.below hx.out) (r2.below hx.out) (by omega) (by omega)⟩ (below_alloc _ _)
    simp only [Act.put, List.setIfInBounds_toArray, List.set_cons_zero, List.set_cons_succ]
    refine Tab.cons IsQ.lasting (fun wx hx hd => ?_) (fun v41 => ?_)
    · skip
      obtain ⟨g40, rfl, h40⟩ := (hd _ (.head _) (by kernel_rfl) : (IsQL [a, b] 12) v40 wx)
      have e37 : v37 = _ := (hd _ (.tail _ (.tail _ (.tail _ (.head _)))) (by kernel_rfl) : (IsV (.bool false)) v37 wx)
      subst e37
      clear hd
      intro KK hK
      go_simp
      refine (qmul_pair h40 (by omega) (by omega)).mono ?_
      rintro e w' ⟨A', n', c', B', m', d', rfl, hc', hb'⟩
      exact hK.out _ _ ⟨A', n', c', B', m', d', rfl, hc'⟩ hb'
    simp only [Act.put, List.setIfInBounds_toArray, List.set_cons_zero, List.set_cons_succ]
    refine Tab.cons IsV.lasting (fun wx hx hd => ?_) (fun v42 => ?_)
    · skip
      have e37 : v37 = _ := (hd _ (.tail _ (.tail _ (.tail _ (.tail _ (.head _))))) (by kernel_rfl) : (IsV (.bool false)) v37 wx)
      subst e37
      clear hd
      intro KK hK
      have hcell := (Q2.out.later hx).cells
      go_simp
      exact hK.out _ _ rfl (Below.refl _ _)
    simp only [Act.put, List.setIfInBounds_toArray, List.set_cons_zero, List.set_cons_succ]
    refine Tab.cons IsV.lasting (fun wx hx hd => ?_) (fun v43 => ?_)
    · skip
      have e37 : v37 = _ := (hd _ (.tail _ (.tail _ (.tail _ (.tail _ (.tail _ (.head _)))))) (by kernel_rfl) : (IsV (.bool false)) v37 wx)
      subst e37
      clear hd
      intro KK hK
      have hcell := (Q1.out.later hx).cells
      go_simp
      exact hK.out _ _ rfl (Below.refl _ _)
    simp only [Act.put, List.setIfInBounds_toArray, List.set_cons_zero, List.set_cons_succ]
    refine Tab.cons IsQL.lasting (fun wx hx hd => ?_) (fun v44 => ?_)
    · skip
      have e42 : v42 = _ := (hd _ (.tail _ (.head _)) (by kernel_rfl) : (IsV (.agg #[.bool s2, .slice A2 n2 c2, .slice B2 m2 d2])) v42 wx)
      subst e42
      have e43 : v43 = _ := (hd _ (.head _) (by kernel_rfl) : (IsV (.agg #[.bool s1, .slice A1 n1 c1, .slice B1 m1 d1])) v43 wx)
      subst e43
      have e37 : v37 = _ := (hd _ (.tail _ (.tail _ (.tail _ (.tail _ (.tail _ (.tail _ (.head _))))))) (by kernel_rfl) : (IsV (.bool false)) v37 wx)
      subst e37
      clear hd
      intro KK hK
      go_simp
      exact hK.out _ _ ⟨_, rfl, ql_two rfl (r2.below hx.out) (r1.below hx.out) (by omega) (by omega)⟩ (below_alloc _ _)
    simp only [Act.put, List.setIfInBounds_toArray, List.set_cons_zero, List.set_cons_succ]
    refine Tab.cons IsQ.lasting (fun wx hx hd => ?_) (fun v45 => ?_)
    · skip
      obtain ⟨g44, rfl, h44⟩ := (hd _ (.head _) (by kernel_rfl) : (IsQL [b, a] 12) v44 wx)
      have e37 : v37 = _ := (hd _ (.tail _ (.tail _ (.tail _ (.tail _ (.tail _ (.tail _ (.tail _ (.head _)))))))) (by kernel_rfl) : (IsV (.bool false)) v37 wx)
      subst e37
      clear hd
      intro KK hK
      go_simp
      refine (qmul_pair h44 (by omega) (by omega)).mono ?_
      rintro e w' ⟨A', n', c', B', m', d', rfl, hc', hb'⟩
      exact hK.out _ _ ⟨A', n', c', B', m', d', rfl, hc'⟩ hb'
    simp only [Act.put, List.setIfInBounds_toArray, List.set_cons_zero, List.set_cons_succ]
    refine Tab.cons IsV.lasting (fun wx hx hd => ?_) (fun v46 => ?_)
    · skip
      obtain ⟨A41, n41, c41, B41, m41, d41, rfl, h41⟩ := (hd _ (.tail _ (.tail _ (.tail _ (.tail _ (.head _))))) (by kernel_rfl) : (IsQ (a * b) 25) v41 wx)
      obtain ⟨A45, n45, c45, B45, m45, d45, rfl, h45⟩ := (hd _ (.head _) (by kernel_rfl) : (IsQ (b * a) 25) v45 wx)
      have e37 : v37 = _ := (hd _ (.tail _ (.tail _ (.tail _ (.tail _ (.tail _ (.tail _ (.tail _ (.tail _ (.head _))))))))) (by kernel_rfl) : (IsV (.bool false)) v37 wx)
      subst e37
      clear hd
      intro KK hK
      go_simp
      refine (same_q_yes h41 h45 (Rat.mul_comm a b)).mono ?_
      rintro e w' ⟨rfl, hb'⟩
      exact hK.out _ _ rfl hb'
    simp only [Act.put, List.setIfInBounds_toArray, List.set_cons_zero, List.set_cons_succ]
    refine Tab.cons IsV.lasting (fun wx hx hd => ?_) (fun v47 => ?_)
    · skip
      have e46 : v46 = _ := (hd _ (.head _) (by kernel_rfl) : (IsV (.bool true)) v46 wx)
      subst e46
      have e37 : v37 = _ := (hd _ (.tail _ (.tail _ (.tail _ (.tail _ (.tail _ (.tail _ (.tail _ (.tail _ (.tail _ (.head _)))))))))) (by kernel_rfl) : (IsV (.bool false)) v37 wx)
      subst e37
      clear hd
      intro KK hK
      go_simp
      exact hK.out _ _ rfl (Below.refl _ _)
    simp only [Act.put, List.setIfInBounds_toArray, List.set_cons_zero, List.set_cons_succ]
    refine Tab.cons IsV.lasting (fun wx hx hd => ?_) (fun v48 => ?_)
    · skip
      have e37 : v37 = _ := (hd _ (.tail _ (.tail _ (.tail _ (.tail _ (.tail _ (.tail _ (.tail _ (.tail _ (.tail _ (.tail _ (.head _))))))))))) (by kernel_rfl) : (IsV (.bool false)) v37 wx)
      subst e37
      have e47 : v47 = _ := (hd _ (.head _) (by kernel_rfl) : (IsV (.bool false)) v47 wx)
      subst e47
      clear hd
      intro KK hK
      go_simp
      exact hK.out _ _ rfl (Below.refl _ _)
    simp only [Act.put, List.setIfInBounds_toArray, List.set_cons_zero, List.set_cons_succ]
    refine Tab.nil fun wx hx hd => ?_
    have e48 : v48 = _ := (hd _ (.head _) : (IsV (.bool false)) v48 wx)
    subst e48
    clear hd
    replace Q1 := hide (Q1.out.later hx)
    replace Q2 := hide (Q2.out.later hx)
    replace Q3 := hide (Q3.out.later hx)
    replace r1 := r1.below hx.out
    replace r2 := r2.below hx.out
    replace r3 := r3.below hx.out
    replace hB := below_step hx.out hB
    clear hF hx Q7 r7 HH
    clear W
    obtain ⟨W, hW⟩ : ∃ W : World, W = wx := ⟨_, rfl⟩
    subst hW
    have hF := From.refl W
    go_wp2_with fail
    refine wp_region_tab 34 134 [IsV (.agg #[.bool s1, .slice A1 n1 c1, .slice B1 m1 d1]), IsV (.agg #[.bool s2, .slice A2 n2 c2, .slice B2 m2 d2]), IsQL [a, b] 12, IsQ (a + b) 27, IsV (.agg #[.bool s3, .slice A3 n3 c3, .slice B3 m3 d3]), IsQL [a + b, c] 27, IsQ ((a + b) + c) 57, IsV (.agg #[.bool s1, .slice A1 n1 c1, .slice B1 m1 d1]), IsV (.agg #[.bool s2, .slice A2 n2 c2, .slice B2 m2 d2]), IsV (.agg #[.bool s3, .slice A3 n3 c3, .slice B3 m3 d3]), IsQL [b, c] 12, IsQ (b + c) 27, IsQL [a, b + c] 27, IsQ (a + (b + c)) 57, IsV (.bool true), IsV (.bool false), IsV (.bool false), IsV (.agg #[.bool s1, .slice A1 n1 c1, .slice B1 m1 d1]), IsV (.agg #[.bool s2, .slice A2 n2 c2, .slice B2 m2 d2]), IsQL [a, b] 12, IsQ (a * b) 25, IsV (.agg #[.bool s3, .slice A3 n3 c3, .slice B3 m3 d3]), IsQL [a * b, c] 25, IsQ ((a * b) * c) 51, IsV (.agg #[.bool s1, .slice A1 n1 c1, .slice B1 m1 d1]), IsV (.agg #[.bool s2, .slice A2 n2 c2, .slice B2 m2 d2]), IsV (.agg #[.bool s3, .slice A3 n3 c3, .slice B3 m3 d3]), IsQL [b, c] 12, IsQ (b * c) 25, IsQL [a, b * c] 25, IsQ (a * (b * c)) 51, IsV (.bool true), IsV (.bool false), IsV (.bool false)] (From W) (by kernel_rfl) (by kernel_rfl) (by kernel_rfl) rfl From.lasting (From.drew hF) ?_
    simp only [List.take_succ_cons, List.drop_succ_cons, List.take_nil, List.drop_nil]
    refine Tab.cons IsV.lasting (fun wx hx hd => ?_) (fun v49 => ?_)
    · skip
      clear hd
      intro KK hK
      have hcell := (Q1.out.later hx).cells
      go_simp
      exact hK.out _ _ rfl (Below.refl _ _)
    simp only [Act.put, List.setIfInBounds_toArray, List.set_cons_zero, List.set_cons_succ]
    refine Tab.cons IsV.lasting (fun wx hx hd => ?_) (fun v50 => ?_)
    · skip
      clear hd
      intro KK hK
      have hcell := (Q2.out.later hx).cells
      go_simp
      exact hK.out _ _ rfl (Below.refl _ _)
    simp only [Act.put, List.setIfInBounds_toArray, List.set_cons_zero, List.set_cons_succ]
    refine Tab.cons IsQL.lasting (fun wx hx hd => ?_) (fun v51 => ?_)
    · skip
      have e49 : v49 = _ := (hd _ (.tail _ (.head _)) (by kernel_rfl) : (IsV (.agg #[.bool s1, .slice A1 n1 c1, .slice B1 m1 d1])) v49 wx)
      subst e49
      have e50 : v50 = _ := (hd _ (.head _) (by kernel_rfl) : (IsV (.agg #[.bool s2, .slice A2 n2 c2, .slice B2 m2 d2])) v50 wx)
      subst e50
      clear hd
      intro KK hK
      go_simp
      exact hK.out _ _ ⟨_, rfl, ql_two rfl (r1.below hx.out) (r2.below hx.out) (by omega) (by omega)⟩ (below_alloc _ _)
    simp only [Act.put, List.setIfInBounds_toArray, List.set_cons_zero, List.set_cons_succ]
    refine Tab.cons IsQ.lasting (fun wx hx hd => ?_) (fun v52 => ?_)
    · skip
      obtain ⟨g51, rfl, h51⟩ := (hd _ (.head _) (by kernel_rfl) : (IsQL [a, b] 12) v51 wx)
      clear hd
      intro KK hK
      go_simp
      refine (qadd_pair h51 (by omega) (by omega)).mono ?_
      rintro e w' ⟨A', n', c', B', m', d', rfl, hc', hb'⟩
      exact hK.out _ _ ⟨A', n', c', B', m', d', rfl, hc'⟩ hb'
    simp only [Act.put, List.setIfInBounds_toArray, List.set_cons_zero, List.set_cons_succ]
    refine Tab.cons IsV.lasting (fun wx hx hd => ?_) (fun v53 => ?_)
    · skip
      clear hd
      intro KK hK
      have hcell := (Q3.out.later hx).cells
      go_simp
      exact hK.out _ _ rfl (Below.refl _ _)
    simp only [Act.put, List.setIfInBounds_toArray, List.set_cons_zero, List.set_cons_succ]
    refine Tab.cons IsQL.lasting (fun wx hx hd => ?_) (fun v54 => ?_)
    · skip
      obtain ⟨A52, n52, c52, B52, m52, d52, rfl, h52⟩ := (hd _ (.tail _ (.head _)) (by kernel_rfl) : (IsQ (a + b) 27) v52 wx)
      have e53 : v53 = _ := (hd _ (.head _) (by kernel_rfl) : (IsV (.agg #[.bool s3, .slice A3 n3 c3, .slice B3 m3 d3])) v53 wx)
      subst e53
      clear hd
      intro KK hK
      go_simp
      exact hK.out _ _ ⟨_, rfl, ql_two rfl h52.raw (r3.below hx.out) (by omega) (by omega)⟩ (below_alloc _ _)
    simp only [Act.put, List.setIfInBounds_toArray, List.set_cons_zero, List.set_cons_succ]
    refine Tab.cons IsQ.lasting (fun wx hx hd => ?_) (fun v55 => ?_)
    · skip
      obtain ⟨g54, rfl, h54⟩ := (hd _ (.head _) (by kernel_rfl) : (IsQL [a + b, c] 27) v54 wx)
      clear hd
      intro KK hK
      go_simp
      refine (qadd_pair h54 (by omega) (by omega)).mono ?_
      rintro e w' ⟨A', n', c', B', m', d', rfl, hc', hb'⟩
      exact hK.out _ _ ⟨A', n', c', B', m', d', rfl, hc'⟩ hb'
    simp only [Act.put, List.setIfInBounds_toArray, List.set_cons_zero, List.set_cons_succ]
    refine Tab.cons IsV.lasting (fun wx hx hd => ?_) (fun v56 => ?_)
    · skip
      clear hd
      intro KK hK
      have hcell := (Q1.out.later hx).cells
      go_simp
      exact hK.out _ _ rfl (Below.refl _ _)
    simp only [Act.put, List.setIfInBounds_toArray, List.set_cons_zero, List.set_cons_succ]
    refine Tab.cons IsV.lasting (fun wx hx hd => ?_) (fun v57 => ?_)
    · skip
      clear hd
      intro KK hK
      have hcell := (Q2.out.later hx).cells
      go_simp
      exact hK.out _ _ rfl (Below.refl _ _)
    simp only [Act.put, List.setIfInBounds_toArray, List.set_cons_zero, List.set_cons_succ]
    refine Tab.cons IsV.lasting (fun wx hx hd => ?_) (fun v58 => ?_)
    · skip
      clear hd
      intro KK hK
      have hcell := (Q3.out.later hx).cells
      go_simp
      exact hK.out _ _ rfl (Below.refl _ _)
    simp only [Act.put, List.setIfInBounds_toArray, List.set_cons_zero, List.set_cons_succ]
    refine Tab.cons IsQL.lasting (fun wx hx hd => ?_) (fun v59 => ?_)
    · skip
      have e57 : v57 = _ := (hd _ (.tail _ (.head _)) (by kernel_rfl) : (IsV (.agg #[.bool s2, .slice A2 n2 c2, .slice B2 m2 d2])) v57 wx)
      subst e57
      have e58 : v58 = _ := (hd _ (.head _) (by kernel_rfl) : (IsV (.agg #[.bool s3, .slice A3 n3 c3, .slice B3 m3 d3])) v58 wx)
      subst e58
      clear hd
      intro KK hK
      go_simp
      exact hK.out _ _ ⟨_, rfl, ql_two rfl (r2.below hx.out) (r3.below hx.out) (by omega) (by omega)⟩ (below_alloc _ _)
    simp only [Act.put, List.setIfInBounds_toArray, List.set_cons_zero, List.set_cons_succ]
    refine Tab.cons IsQ.lasting (fun wx hx hd => ?_) (fun v60 => ?_)
    · skip
      obtain ⟨g59, rfl, h59⟩ := (hd _ (.head _) (by kernel_rfl) : (IsQL [b, c] 12) v59 wx)
      clear hd
      intro KK hK
      go_simp
      refine (qadd_pair h59 (by omega) (by omega)).mono ?_
      rintro e w' ⟨A', n', c', B', m', d', rfl, hc', hb'⟩
      exact hK.out _ _ ⟨A', n', c', B', m', d', rfl, hc'⟩ hb'
    simp only [Act.put, List.setIfInBounds_toArray, List.set_cons_zero, List.set_cons_succ]
    refine Tab.cons IsQL.lasting (fun wx hx hd => ?_) (fun v61 => ?_)
    · skip
      have e56 : v56 = _ := (hd _ (.tail _ (.tail _ (.tail _ (.tail _ (.head _))))) (by kernel_rfl) : (IsV (.agg #[.bool s1, .slice A1 n1 c1, .slice B1 m1 d1])) v56 wx)
      subst e56
      obtain ⟨A60, n60, c60, B60, m60, d60, rfl, h60⟩ := (hd _ (.head _) (by kernel_rfl) : (IsQ (b + c) 27) v60 wx)
      clear hd
      intro KK hK
      go_simp
      exact hK.out _ _ ⟨_, rfl, ql_two rfl (r1.below hx.out) h60.raw (by omega) (by omega)⟩ (below_alloc _ _)
    simp only [Act.put, List.setIfInBounds_toArray, List.set_cons_zero, List.set_cons_succ]
    refine Tab.cons IsQ.lasting (fun wx hx hd => ?_) (fun v62 => ?_)
    · skip
      obtain ⟨g61, rfl, h61⟩ := (hd _ (.head _) (by kernel_rfl) : (IsQL [a, b + c] 27) v61 wx)
      clear hd
      intro KK hK
      go_simp
      refine (qadd_pair h61 (by omega) (by omega)).mono ?_
      rintro e w' ⟨A', n', c', B', m', d', rfl, hc', hb'⟩
      exact hK.out _ _ ⟨A', n', c', B', m', d', rfl, hc'⟩ hb'
    simp only [Act.put, List.setIfInBounds_toArray, List.set_cons_zero, List.set_cons_succ]
    refine Tab.cons IsV.lasting (fun wx hx hd => ?_) (fun v63 => ?_)
    · skip
      obtain ⟨A55, n55, c55, B55, m55, d55, rfl, h55⟩ := (hd _ (.tail _ (.tail _ (.tail _ (.tail _ (.tail _ (.tail _ (.tail _ (.head _)))))))) (by kernel_rfl) : (IsQ ((a + b) + c) 57) v55 wx)
      obtain ⟨A62, n62, c62, B62, m62, d62, rfl, h62⟩ := (hd _ (.head _) (by kernel_rfl) : (IsQ (a + (b + c)) 57) v62 wx)
      clear hd
      intro KK hK
      go_simp
      refine (same_q_yes h55 h62 (Rat.add_assoc a b c)).mono ?_
      rintro e w' ⟨rfl, hb'⟩
      exact hK.out _ _ rfl hb'
    simp only [Act.put, List.setIfInBounds_toArray, List.set_cons_zero, List.set_cons_succ]
    refine Tab.cons IsV.lasting (fun wx hx hd => ?_) (fun v64 => ?_)
    · skip
      have e63 : v63 = _ := (hd _ (.head _) (by kernel_rfl) : (IsV (.bool true)) v63 wx)
      subst e63
      clear hd
      intro KK hK
      go_simp
      exact hK.out _ _ rfl (Below.refl _ _)
    simp only [Act.put, List.setIfInBounds_toArray, List.set_cons_zero, List.set_cons_succ]
    refine Tab.cons IsV.lasting (fun wx hx hd => ?_) (fun v65 => ?_)
    · skip
      have e64 : v64 = _ := (hd _ (.head _) (by kernel_rfl) : (IsV (.bool false)) v64 wx)
      subst e64
      clear hd
      intro KK hK
      go_simp
      exact hK.out _ _ rfl (Below.refl _ _)
    simp only [Act.put, List.setIfInBounds_toArray, List.set_cons_zero, List.set_cons_succ]
    refine Tab.cons IsV.lasting (fun wx hx hd => ?_) (fun v66 => ?_)
    · skip
      have e65 : v65 = _ := (hd _ (.head _) (by kernel_rfl) : (IsV (.bool false)) v65 wx)
      subst e65
      clear hd
      intro KK hK
      have hcell := (Q1.out.later hx).cells
      go_simp
      exact hK.out _ _ rfl (Below.refl _ _)
    simp only [Act.put, List.setIfInBounds_toArray, List.set_cons_zero, List.set_cons_succ]
    refine Tab.cons IsV.lasting (fun wx hx hd => ?_) (fun v67 => ?_)
    · skip
      have e65 : v65 = _ := (hd _ (.tail _ (.head _)) (by kernel_rfl) : (IsV (.bool false)) v65 wx)
      subst e65
      clear hd
      intro KK hK
      have hcell := (Q2.out.later hx).cells
      go_simp
      exact hK.out _ _ rfl (Below.refl _ _)
    simp only [Act.put, List.setIfInBounds_toArray, List.set_cons_zero, List.set_cons_succ]
    refine Tab.cons IsQL.lasting (fun wx hx hd => ?_) (fun v68 => ?_)
    · skip
      have e66 : v66 = _ := (hd _ (.tail _ (.head _)) (by kernel_rfl) : (IsV (.agg #[.bool s1, .slice A1 n1 c1, .slice B1 m1 d1])) v66 wx)
      subst e66
      have e67 : v67 = _ := (hd _ (.head _) (by kernel_rfl) : (IsV (.agg #[.bool s2, .slice A2 n2 c2, .slice B2 m2 d2])) v67 wx)
      subst e67
      have e65 : v65 = _ := (hd _ (.tail _ (.tail _ (.head _))) (by kernel_rfl) : (IsV (.bool false)) v65 wx)
      subst e65
      clear hd
      intro KK hK
      go_simp
      exact hK.out _ _ ⟨_, rfl, ql_two rfl (r1.below hx.out) (r2.below hx.out) (by omega) (by omega)⟩ (below_alloc _ _)
    simp only [Act.put, List.setIfInBounds_toArray, List.set_cons_zero, List.set_cons_succ]
    refine Tab.cons IsQ.lasting (fun wx hx hd => ?_) (fun v69 => ?_)
    · skip
      obtain ⟨g68, rfl, h68⟩ := (hd _ (.head _) (by kernel_rfl) : (IsQL [a, b] 12) v68 wx)
      have e65 : v65 = _ := (hd _ (.tail _ (.tail _ (.tail _ (.head _)))) (by kernel_rfl) : (IsV (.bool false)) v65 wx)
      subst e65
      clear hd
      intro KK hK
      go_simp
      refine (qmul_pair h68 (by omega) (by omega)).mono ?_
      rintro e w' ⟨A', n', c', B', m', d', rfl, hc', hb'⟩
      exact hK.out _ _ ⟨A', n', c', B', m', d', rfl, hc'⟩ hb'
    simp only [Act.put, List.setIfInBounds_toArray, List.set_cons_zero, List.set_cons_succ]
    refine Tab.cons IsV.lasting (fun wx hx hd => ?_) (fun v70 => ?_)
    · skip
      have e65 : v65 = _ := (hd _ (.tail _ (.tail _ (.tail _ (.tail _ (.head _))))) (by kernel_rfl) : (IsV (.bool false)) v65 wx)
      subst e65
      clear hd
      intro KK hK
      have hcell := (Q3.out.later hx).cells
      go_simp
      exact hK.out _ _ rfl (Below.refl _ _)
    simp only [Act.put, List.setIfInBounds_toArray, List.set_cons_zero, List.set_cons_succ]
    refine Tab.cons IsQL.lasting (fun wx hx hd => ?_) (fun v71 => ?_)
    · skip
      obtain ⟨A69, n69, c69, B69, m69, d69, rfl, h69⟩ := (hd _ (.tail _ (.head _)) (by kernel_rfl) : (IsQ (a * b) 25) v69 wx)
      have e70 : v70 = _ := (hd _ (.head _) (by kernel_rfl) : (IsV (.agg #[.bool s3, .slice A3 n3 c3, .slice B3 m3 d3])) v70 wx)
      subst e70
      have e65 : v65 = _ := (hd _ (.tail _ (.tail _ (.tail _ (.tail _ (.tail _ (.head _)))))) (by kernel_rfl) : (IsV (.bool false)) v65 wx)
      subst e65
      clear hd
      intro KK hK
      go_simp
      exact hK.out _ _ ⟨_, rfl, ql_two rfl h69.raw (r3.below hx.out) (by omega) (by omega)⟩ (below_alloc _ _)
    simp only [Act.put, List.setIfInBounds_toArray, List.set_cons_zero, List.set_cons_succ]
    refine Tab.cons IsQ.lasting (fun wx hx hd => ?_) (fun v72 => ?_)
    · skip
      obtain ⟨g71, rfl, h71⟩ := (hd _ (.head _) (by kernel_rfl) : (IsQL [a * b, c] 25) v71 wx)
      have e65 : v65 = _ := (hd _ (.tail _ (.tail _ (.tail _ (.tail _ (.tail _ (.tail _ (.head _))))))) (by kernel_rfl) : (IsV (.bool false)) v65 wx)
      subst e65
      clear hd
      intro KK hK
      go_simp
      refine (qmul_pair h71 (by omega) (by omega)).mono ?_
      rintro e w' ⟨A', n', c', B', m', d', rfl, hc', hb'⟩
      exact hK.out _ _ ⟨A', n', c', B', m', d', rfl, hc'⟩ hb'
    simp only [Act.put, List.setIfInBounds_toArray, List.set_cons_zero, List.set_cons_succ]
    refine Tab.cons IsV.lasting (fun wx hx hd => ?_) (fun v73 => ?_)
    · skip
      have e65 : v65 = _ := (hd _ (.tail _ (.tail _ (.tail _ (.tail _ (.tail _ (.tail _ (.tail _ (.head _)))))))) (by kernel_rfl) : (IsV (.bool false)) v65 wx)
      subst e65
      clear hd
      intro KK hK
      have hcell := (Q1.out.later hx).cells
      go_simp
      exact hK.out _ _ rfl (Below.refl _ _)
    simp only [Act.put, List.setIfInBounds_toArray, List.set_cons_zero, List.set_cons_succ]
    refine Tab.cons IsV.lasting (fun wx hx hd => ?_) (fun v74 => ?_)
    · skip
      have e65 : v65 = _ := (hd _ (.tail _ (.tail _ (.tail _ (.tail _ (.tail _ (.tail _ (.tail _ (.tail _ (.head _))))))))) (by kernel_rfl) : (IsV (.bool false)) v65 wx)
      subst e65
      clear hd
      intro KK hK
      have hcell := (Q2.out.later hx).cells
      go_simp
      exact hK.out _ _ rfl (Below.refl _ _)
    simp only [Act.put, List.setIfInBounds_toArray, List.set_cons_zero, List.set_cons_succ]
    refine Tab.cons IsV.lasting (fun wx hx hd => ?_) (fun v75 => ?_)
    · skip
      have e65 : v65 = _ := (hd _ (.tail _ (.tail _ (.tail _ (.tail _ (.tail _ (.tail _ (.tail _ (.tail _ (.tail _ (.head _)))))))))) (by kernel_rfl) : (IsV (.bool false)) v65 wx)
      subst e65
      clear hd
      intro KK hK
      have hcell := (Q3.out.later hx).cells
      go_simp
      exact hK.out _ _ rfl (Below.refl _ _)
    simp only [Act.put, List.setIfInBounds_toArray, List.set_cons_zero, List.set_cons_succ]
    refine Tab.cons IsQL.lasting (fun wx hx hd => ?_) (fun v76 => ?_)
    · skip
      have e74 : v74 = _ := (hd _ (.tail _ (.head _)) (by kernel_rfl) : (IsV (.agg #[.bool s2, .slice A2 n2 c2, .slice B2 m2 d2])) v74 wx)
      subst e74
      have e75 : v75 = _ := (hd _ (.head _) (by kernel_rfl) : (IsV (.agg #[.bool s3, .slice A3 n3 c3, .slice B3 m3 d3])) v75 wx)
      subst e75
      have e65 : v65 = _ := (hd _ (.tail _ (.tail _ (.tail _ (.tail _ (.tail _ (.tail _ (.tail _ (.tail _ (.tail _ (.tail _ (.head _))))))))))) (by kernel_rfl) : (IsV (.bool false)) v65 wx)
      subst e65
      clear hd
      intro KK hK
      go_simp
      exact hK.out _ _ ⟨_, rfl, ql_two rfl (r2.below hx.out) (r3.below hx.out) (by omega) (by omega)⟩ (below_alloc _ _)
    simp only [Act.put, List.setIfInBounds_toArray, List.set_cons_zero, List.set_cons_succ]
    refine Tab.cons IsQ.lasting (fun wx hx hd => ?_) (fun v77 => ?_)
    · skip
      obtain ⟨g76, rfl, h76⟩ := (hd _ (.head _) (by kernel_rfl) : (IsQL [b, c] 12) v76 wx)
      have e65 : v65 = _ := (hd _ (.tail _ (.tail _ (.tail _ (.tail _ (.tail _ (.tail _ (.tail _ (.tail _ (.tail _ (.tail _ (.tail _ (.head _)))))))))))) (by kernel_rfl) : (IsV (.bool false)) v65 wx)
      subst e65
      clear hd
      intro KK hK
      go_simp
      refine (qmul_pair h76 (by omega) (by omega)).mono ?_
      rintro e w' ⟨A', n', c', B', m', d', rfl, hc', hb'⟩
      exact hK.out _ _ ⟨A', n', c', B', m', d', rfl, hc'⟩ hb'
    simp only [Act.put, List.setIfInBounds_toArray, List.set_cons_zero, List.set_cons_succ]
    refine Tab.cons IsQL.lasting (fun wx hx hd => ?_) (fun v78 => ?_)
    · skip
      have e73 : v73 = _ := (hd _ (.tail _ (.tail _ (.tail _ (.tail _ (.head _))))) (by kernel_rfl) : (IsV (.agg #[.bool s1, .slice A1 n1 c1, .slice B1 m1 d1])) v73 wx)
      subst e73
      obtain ⟨A77, n77, c77, B77, m77, d77, rfl, h77⟩ := (hd _ (.head _) (by kernel_rfl) : (IsQ (b * c) 25) v77 wx)
      have e65 : v65 = _ := (hd _ (.tail _ (.tail _ (.tail _ (.tail _ (.tail _ (.tail _ (.tail _ (.tail _ (.tail _ (.tail _ (.tail _ (.tail _ (.head _))))))))))))) (by kernel_rfl) : (IsV (.bool false)) v65 wx)
      subst e65
      clear hd
      intro KK hK
      go_simp
      exact hK.out _ _ ⟨_, rfl, ql_two rfl (r1.below hx.out) h77.raw (by omega) (by omega)⟩ (below_alloc _ _)
    simp only [Act.put, List.setIfInBounds_toArray, List.set_cons_zero, List.set_cons_succ]
    refine Tab.cons IsQ.lasting (fun wx hx hd => ?_) (fun v79 => ?_)
    · skip
      obtain ⟨g78, rfl, h78⟩ := (hd _ (.head _) (by kernel_rfl) : (IsQL [a, b * c] 25) v78 wx)
      have e65 : v65 = _ := (hd _ (.tail _ (.tail _ (.tail _ (.tail _ (.tail _ (.tail _ (.tail _ (.tail _ (.tail _ (.tail _ (.tail _ (.tail _ (.tail _ (.head _)))))))))))))) (by kernel_rfl) : (IsV (.bool false)) v65 wx)
      subst e65
      clear hd
      intro KK hK
      go_simp
      refine (qmul_pair h78 (by omega) (by omega)).mono ?_
      rintro e w' ⟨A', n', c', B', m', d', rfl, hc', hb'⟩
      exact hK.out _ _ ⟨A', n', c', B', m', d', rfl, hc'⟩ hb'
    simp only [Act.put, List.setIfInBounds_toArray, List.set_cons_zero, List.set_cons_succ]
    refine Tab.cons IsV.lasting (fun wx hx hd => ?_) (fun v80 => ?_)
    · skip
      obtain ⟨A72, n72, c72, B72, m72, d72, rfl, h72⟩ := (hd _ (.tail _ (.tail _ (.tail _ (.tail _ (.tail _ (.tail _ (.tail _ (.head _)))))))) (by kernel_rfl) : (IsQ ((a * b) * c) 51) v72 wx)
      obtain ⟨A79, n79, c79, B79, m79, d79, rfl, h79⟩ := (hd _ (.head _) (by kernel_rfl) : (IsQ (a * (b * c)) 51) v79 wx)
      have e65 : v65 = _ := (hd _ (.tail _ (.tail _ (.tail _ (.tail _ (.tail _ (.tail _ (.tail _ (.tail _ (.tail _ (.tail _ (.tail _ (.tail _ (.tail _ (.tail _ (.head _))))))))))))))) (by kernel_rfl) : (IsV (.bool false)) v65 wx)
      subst e65
      clear hd
      intro KK hK
      go_simp
      refine (same_q_yes h72 h79 (Rat.mul_assoc a b c)).mono ?_
      rintro e w' ⟨rfl, hb'⟩
      exact hK.out _ _ rfl hb'
    simp only [Act.put, List.setIfInBounds_toArray, List.set_cons_zero, List.set_cons_succ]
    refine Tab.cons IsV.lasting (fun wx hx hd => ?_) (fun v81 => ?_)
    · skip
      have e80 : v80 = _ := (hd _ (.head _) (by kernel_rfl) : (IsV (.bool true)) v80 wx)
      subst e80
      have e65 : v65 = _ := (hd _ (.tail _ (.tail _ (.tail _ (.tail _ (.tail _ (.tail _ (.tail _ (.tail _ (.tail _ (.tail _ (.tail _ (.tail _ (.tail _ (.tail _ (.tail _ (.head _)))))))))))))))) (by kernel_rfl) : (IsV (.bool false)) v65 wx)
      subst e65
      clear hd
      intro KK hK
      go_simp
      exact hK.out _ _ rfl (Below.refl _ _)
    simp only [Act.put, List.setIfInBounds_toArray, List.set_cons_zero, List.set_cons_succ]
    refine Tab.cons IsV.lasting (fun wx hx hd => ?_) (fun v82 => ?_)
    · skip
      have e65 : v65 = _ := (hd _ (.tail _ (.tail _ (.tail _ (.tail _ (.tail _ (.tail _ (.tail _ (.tail _ (.tail _ (.tail _ (.tail _ (.tail _ (.tail _ (.tail _ (.tail _ (.tail _ (.head _))))))))))))))))) (by kernel_rfl) : (IsV (.bool false)) v65 wx)
      subst e65
      have e81 : v81 = _ := (hd _ (.head _) (by kernel_rfl) : (IsV (.bool false)) v81 wx)
      subst e81
      clear hd
      intro KK hK
      go_simp
      exact hK.out _ _ rfl (Below.refl _ _)
    simp only [Act.put, List.setIfInBounds_toArray, List.set_cons_zero, List.set_cons_succ]
    refine Tab.nil fun wx hx hd => ?_
    have e82 : v82 = _ := (hd _ (.head _) : (IsV (.bool false)) v82 wx)
    subst e82
    clear hd
    replace Q1 := hide (Q1.out.later hx)
    replace Q2 := hide (Q2.out.later hx)
    replace Q3 := hide (Q3.out.later hx)
    replace r1 := r1.below hx.out
    replace r2 := r2.below hx.out
    replace r3 := r3.below hx.out
    replace hB := below_step hx.out hB
    clear hF hx
    clear W
    obtain ⟨W, hW⟩ : ∃ W : World, W = wx := ⟨_, rfl⟩
    subst hW
    have hF := From.refl W
    go_wp2_with fail
    refine wp_region_tab 19 134 [IsV (.agg #[.bool s1, .slice A1 n1 c1, .slice B1 m1 d1]), IsV (.agg #[.bool s2, .slice A2 n2 c2, .slice B2 m2 d2]), IsV (.agg #[.bool s3, .slice A3 n3 c3, .slice B3 m3 d3]), IsQL [b, c] 12, IsQ (b + c) 27, IsQL [a, b + c] 27, IsQ (a * (b + c)) 55, IsV (.agg #[.bool s1, .slice A1 n1 c1, .slice B1 m1 d1]), IsV (.agg #[.bool s2, .slice A2 n2 c2, .slice B2 m2 d2]), IsQL [a, b] 12, IsQ (a * b) 25, IsV (.agg #[.bool s1, .slice A1 n1 c1, .slice B1 m1 d1]), IsV (.agg #[.bool s3, .slice A3 n3 c3, .slice B3 m3 d3]), IsQL [a, c] 12, IsQ (a * c) 25, IsQL [a * b, a * c] 25, IsQ ((a * b) + (a * c)) 53, IsV (.bool true), IsV (.bool false)] (From W) (by kernel_rfl) (by kernel_rfl) (by kernel_rfl) rfl From.lasting (From.drew hF) ?_
    simp only [List.take_succ_cons, List.drop_succ_cons, List.take_nil, List.drop_nil]
    refine Tab.cons IsV.lasting (fun wx hx hd => ?_) (fun v83 => ?_)
    · skip
      clear hd
      intro KK hK
      have hcell := (Q1.out.later hx).cells
      go_simp
      exact hK.out _ _ rfl (Below.refl _ _)
    simp only [Act.put, List.setIfInBounds_toArray, List.set_cons_zero, List.set_cons_succ]
    refine Tab.cons IsV.lasting (fun wx hx hd => ?_) (fun v84 => ?_)
    · skip
      clear hd
      intro KK hK
      have hcell := (Q2.out.later hx).cells
      go_simp
      exact hK.out _ _ rfl (Below.refl _ _)
    simp only [Act.put, List.setIfInBounds_toArray, List.set_cons_zero, List.set_cons_succ]
    refine Tab.cons IsV.lasting (fun wx hx hd => ?_) (fun v85 => ?_)
    · skip
      clear hd
      intro KK hK
      have hcell := (Q3.out.later hx).cells
      go_simp
      exact hK.out _ _ rfl (Below.refl _ _)
    simp only [Act.put, List.setIfInBounds_toArray, List.set_cons_zero, List.set_cons_succ]
    refine Tab.cons IsQL.lasting (fun wx hx hd => ?_) (fun v86 => ?_)
    · skip
      have e84 : v84 = _ := (hd _ (.tail _ (.head _)) (by kernel_rfl) : (IsV (.agg #[.bool s2, .slice A2 n2 c2, .slice B2 m2 d2])) v84 wx)
      subst e84
      have e85 : v85 = _ := (hd _ (.head _) (by kernel_rfl) : (IsV (.agg #[.bool s3, .slice A3 n3 c3, .slice B3 m3 d3])) v85 wx)
      subst e85
      clear hd
      intro KK hK
      go_simp
      exact hK.out _ _ ⟨_, rfl, ql_two rfl (r2.below hx.out) (r3.below hx.out) (by omega) (by omega)⟩ (below_alloc _ _)
    simp only [Act.put, List.setIfInBounds_toArray, List.set_cons_zero, List.set_cons_succ]
    refine Tab.cons IsQ.lasting (fun wx hx hd => ?_) (fun v87 => ?_)
    · skip
      obtain ⟨g86, rfl, h86⟩ := (hd _ (.head _) (by kernel_rfl) : (IsQL [b, c] 12) v86 wx)
      clear hd
      intro KK hK
      go_simp
      refine (qadd_pair h86 (by omega) (by omega)).mono ?_
      rintro e w' ⟨A', n', c', B', m', d', rfl, hc', hb'⟩
      exact hK.out _ _ ⟨A', n', c', B', m', d', rfl, hc'⟩ hb'
    simp only [Act.put, List.setIfInBounds_toArray, List.set_cons_zero, List.set_cons_succ]
    refine Tab.cons IsQL.lasting (fun wx hx hd => ?_) (fun v88 => ?_)
    · skip
      have e83 : v83 = _ := (hd _ (.tail _ (.tail _ (.tail _ (.tail _ (.head _))))) (by kernel_rfl) : (IsV (.agg #[.bool s1, .slice A1 n1 c1, .slice B1 m1 d1])) v83 wx)
      subst e83
      obtain ⟨A87, n87, c87, B87, m87, d87, rfl, h87⟩ := (hd _ (.head _) (by kernel_rfl) : (IsQ (b + c) 27) v87 wx)
      clear hd
      intro KK hK
      go_simp
      exact hK.out _ _ ⟨_, rfl, ql_two rfl (r1.below hx.out) h87.raw (by omega) (by omega)⟩ (below_alloc _ _)
    simp only [Act.put, List.setIfInBounds_toArray, List.set_cons_zero, List.set_cons_succ]
    refine Tab.cons IsQ.lasting (fun wx hx hd => ?_) (fun v89 => ?_)
    · skip
      obtain ⟨g88, rfl, h88⟩ := (hd _ (.head _) (by kernel_rfl) : (IsQL [a, b + c] 27) v88 wx)
      clear hd
      intro KK hK
      go_simp
      refine (qmul_pair h88 (by omega) (by omega)).mono ?_
      rintro e w' ⟨A', n', c', B', m', d', rfl, hc', hb'⟩
      exact hK.out _ _ ⟨A', n', c', B', m', d', rfl, hc'⟩ hb'
    simp only [Act.put, List.setIfInBounds_toArray, List.set_cons_zero, List.set_cons_succ]
    refine Tab.cons IsV.lasting (fun wx hx hd => ?_) (fun v90 => ?_)
    · skip
      clear hd
      intro KK hK
      have hcell := (Q1.out.later hx).cells
      go_simp
      exact hK.out _ _ rfl (Below.refl _ _)
    simp only [Act.put, List.setIfInBounds_toArray, List.set_cons_zero, List.set_cons_succ]
    refine Tab.cons IsV.lasting (fun wx hx hd => ?_) (fun v91 => ?_)
    · skip
      clear hd
      intro KK hK
      have hcell := (Q2.out.later hx).cells
      go_simp
      exact hK.out _ _ rfl (Below.refl _ _)
    simp only [Act.put, List.setIfInBounds_toArray, List.set_cons_zero, List.set_cons_succ]
    refine Tab.cons IsQL.lasting (fun wx hx hd => ?_) (fun v92 => ?_)
    · skip
      have e90 : v90 = _ := (hd _ (.tail _ (.head _)) (by kernel_rfl) : (IsV (.agg #[.bool s1, .slice A1 n1 c1, .slice B1 m1 d1])) v90 wx)
      subst e90
      have e91 : v91 = _ := (hd _ (.head _) (by kernel_rfl) : (IsV (.agg #[.bool s2, .slice A2 n2 c2, .slice B2 m2 d2])) v91 wx)
      subst e91
      clear hd
      intro KK hK
      go_simp
      exact hK.out _ _ ⟨_, rfl, ql_two rfl (r1.below hx.out) (r2.below hx.out) (by omega) (by omega)⟩ (below_alloc _ _)
    simp only [Act.put, List.setIfInBounds_toArray, List.set_cons_zero, List.set_cons_succ]
    refine Tab.cons IsQ.lasting (fun wx hx hd => ?_) (fun v93 => ?_)
    · skip
      obtain ⟨g92, rfl, h92⟩ := (hd _ (.head _) (by kernel_rfl) : (IsQL [a, b] 12) v92 wx)
      clear hd
      intro KK hK
      go_simp
      refine (qmul_pair h92 (by omega) (by omega)).mono ?_
      rintro e w' ⟨A', n', c', B', m', d', rfl, hc', hb'⟩
      exact hK.out _ _ ⟨A', n', c', B', m', d', rfl, hc'⟩ hb'
    simp only [Act.put, List.setIfInBounds_toArray, List.set_cons_zero, List.set_cons_succ]
    refine Tab.cons IsV.lasting (fun wx hx hd => ?_) (fun v94 => ?_)
    · skip
      clear hd
      intro KK hK
      have hcell := (Q1.out.later hx).cells
      go_simp
      exact hK.out _ _ rfl (Below.refl _ _)
    simp only [Act.put, List.setIfInBounds_toArray, List.set_cons_zero, List.set_cons_succ]
    refine Tab.cons IsV.lasting (fun wx hx hd => ?_) (fun v95 => ?_)
    · skip
      clear hd
      intro KK hK
      have hcell := (Q3.out.later hx).cells
      go_simp
      exact hK.out _ _ rfl (Below.refl _ _)
    simp only [Act.put, List.setIfInBounds_toArray, List.set_cons_zero, List.set_cons_succ]
    refine Tab.cons IsQL.lasting (fun wx hx hd => ?_) (fun v96 => ?_)
    · skip
      have e94 : v94 = _ := (hd _ (.tail _ (.head _)) (by kernel_rfl) : (IsV (.agg #[.bool s1, .slice A1 n1 c1, .slice B1 m1 d1])) v94 wx)
      subst e94
      have e95 : v95 = _ := (hd _ (.head _) (by kernel_rfl) : (IsV (.agg #[.bool s3, .slice A3 n3 c3, .slice B3 m3 d3])) v95 wx)
      subst e95
      clear hd
      intro KK hK
      go_simp
      exact hK.out _ _ ⟨_, rfl, ql_two rfl (r1.below hx.out) (r3.below hx.out) (by omega) (by omega)⟩ (below_alloc _ _)
    simp only [Act.put, List.setIfInBounds_toArray, List.set_cons_zero, List.set_cons_succ]
    refine Tab.cons IsQ.lasting (fun wx hx hd => ?_) (fun v97 => ?_)
    · skip
      obtain ⟨g96, rfl, h96⟩ := (hd _ (.head _) (by kernel_rfl) : (IsQL [a, c] 12) v96 wx)
      clear hd
      intro KK hK
      go_simp
      refine (qmul_pair h96 (by omega) (by omega)).mono ?_
      rintro e w' ⟨A', n', c', B', m', d', rfl, hc', hb'⟩
      exact hK.out _ _ ⟨A', n', c', B', m', d', rfl, hc'⟩ hb'
    simp only [Act.put, List.setIfInBounds_toArray, List.set_cons_zero, List.set_cons_succ]
    refine Tab.cons IsQL.lasting (fun wx hx hd => ?_) (fun v98 => ?_)
    · skip
      obtain ⟨A93, n93, c93, B93, m93, d93, rfl, h93⟩ := (hd _ (.tail _ (.tail _ (.tail _ (.tail _ (.head _))))) (by kernel_rfl) : (IsQ (a * b) 25) v93 wx)
      obtain ⟨A97, n97, c97, B97, m97, d97, rfl, h97⟩ := (hd _ (.head _) (by kernel_rfl) : (IsQ (a * c) 25) v97 wx)
      clear hd
      intro KK hK
      go_simp
      exact hK.out _ _ ⟨_, rfl, ql_two rfl h93.raw h97.raw (by omega) (by omega)⟩ (below_alloc _ _)
    simp only [Act.put, List.setIfInBounds_toArray, List.set_cons_zero, List.set_cons_succ]
    refine Tab.cons IsQ.lasting (fun wx hx hd => ?_) (fun v99 => ?_)
    · skip
      obtain ⟨g98, rfl, h98⟩ := (hd _ (.head _) (by kernel_rfl) : (IsQL [a * b, a * c] 25) v98 wx)
      clear hd
      intro KK hK
      go_simp
      refine (qadd_pair h98 (by omega) (by omega)).mono ?_
      rintro e w' ⟨A', n', c', B', m', d', rfl, hc', hb'⟩
      exact hK.out _ _ ⟨A', n', c', B', m', d', rfl, hc'⟩ hb'
    simp only [Act.put, List.setIfInBounds_toArray, List.set_cons_zero, List.set_cons_succ]
    refine Tab.cons IsV.lasting (fun wx hx hd => ?_) (fun v100 => ?_)
    · skip
      obtain ⟨A89, n89, c89, B89, m89, d89, rfl, h89⟩ := (hd _ (.tail _ (.tail _ (.tail _ (.tail _ (.tail _ (.tail _ (.tail _ (.tail _ (.tail _ (.tail _ (.head _))))))))))) (by kernel_rfl) : (IsQ (a * (b + c)) 55) v89 wx)
      obtain ⟨A99, n99, c99, B99, m99, d99, rfl, h99⟩ := (hd _ (.head _) (by kernel_rfl) : (IsQ ((a * b) + (a * c)) 53) v99 wx)
      clear hd
      intro KK hK
      go_simp
      refine (same_q_yes h89 h99 (Rat.mul_add a b c)).mono ?_
      rintro e w' ⟨rfl, hb'⟩
      exact hK.out _ _ rfl hb'
    simp only [Act.put, List.setIfInBounds_toArray, List.set_cons_zero, List.set_cons_succ]
    refine Tab.cons IsV.lasting (fun wx hx hd => ?_) (fun v101 => ?_)
    · skip
      have e100 : v100 = _ := (hd _ (.head _) (by kernel_rfl) : (IsV (.bool true)) v100 wx)
      subst e100
      clear hd
      intro KK hK
      go_simp
      exact hK.out _ _ rfl (Below.refl _ _)
    simp only [Act.put, List.setIfInBounds_toArray, List.set_cons_zero, List.set_cons_succ]
    refine Tab.nil fun wx hx hd => ?_
    have e101 : v101 = _ := (hd _ (.head _) : (IsV (.bool false)) v101 wx)
    subst e101
    clear hd
    replace Q1 := hide (Q1.out.later hx)
    replace Q2 := hide (Q2.out.later hx)
    replace Q3 := hide (Q3.out.later hx)
    replace r1 := r1.below hx.out
    replace r2 := r2.below hx.out
    replace r3 := r3.below hx.out
    replace hB := below_step hx.out hB
    clear hF hx
    clear W
    obtain ⟨W, hW⟩ : ∃ W : World, W = wx := ⟨_, rfl⟩
    subst hW
    have hF := From.refl W
    go_wp2_with fail
    refine wp_region_tab 33 134 [IsV (.agg #[.bool s1, .slice A1 n1 c1, .slice B1 m1 d1]), IsV (.agg #[.bool s1, .slice A1 n1 c1, .slice B1 m1 d1]), IsQ (-a) 12, IsQL [a, -a] 12, IsQ (a + (-a)) 27, IsV (.int .i64 0), IsV (.bool true), IsV (.bool true), IsV (.agg #[.bool s1, .slice A1 n1 c1, .slice B1 m1 d1]), IsV (.agg #[.bool s2, .slice A2 n2 c2, .slice B2 m2 d2]), IsQL [a, b] 12, IsQ (a + b) 27, IsV (.agg #[.bool s2, .slice A2 n2 c2, .slice B2 m2 d2]), IsQ ((a + b) - b) 40, IsV (.agg #[.bool s1, .slice A1 n1 c1, .slice B1 m1 d1]), IsQ (a) 12, IsV (.bool true), IsV (.bool true), IsV (.bool true), IsV (.agg #[.bool s1, .slice A1 n1 c1, .slice B1 m1 d1]), IsV (.agg #[.bool s2, .slice A2 n2 c2, .slice B2 m2 d2]), IsQL [a, b] 12, IsQ (a + b) 27, IsV (.bool true), IsV (.bool true), IsV (.bool true), IsV (.agg #[.bool s1, .slice A1 n1 c1, .slice B1 m1 d1]), IsV (.agg #[.bool s2, .slice A2 n2 c2, .slice B2 m2 d2]), IsQL [a, b] 12, IsQ (a * b) 25, IsV (.bool true), IsV (.bool true), IsV (.bool true)] (From W) (by kernel_rfl) (by kernel_rfl) (by kernel_rfl) rfl From.lasting (From.drew hF) ?_
    simp only [List.take_succ_cons, List.drop_succ_cons, List.take_nil, List.drop_nil]
    refine Tab.cons IsV.lasting (fun wx hx hd => ?_) (fun v102 => ?_)
    · skip
      clear hd
      intro KK hK
      have hcell := (Q1.out.later hx).cells
      go_simp
      exact hK.out _ _ rfl (Below.refl _ _)
    simp only [Act.put, List.setIfInBounds_toArray, List.set_cons_zero, List.set_cons_succ]
    refine Tab.cons IsV.lasting (fun wx hx hd => ?_) (fun v103 => ?_)
    · skip
      clear hd
      intro KK hK
      have hcell := (Q1.out.later hx).cells
      go_simp
      exact hK.out _ _ rfl (Below.refl _ _)
    simp only [Act.put, List.setIfInBounds_toArray, List.set_cons_zero, List.set_cons_succ]
    refine Tab.cons IsQ.lasting (fun wx hx hd => ?_) (fun v104 => ?_)
    · skip
      have e103 : v103 = _ := (hd _ (.head _) (by kernel_rfl) : (IsV (.agg #[.bool s1, .slice A1 n1 c1, .slice B1 m1 d1])) v103 wx)
      subst e103
      clear hd
      intro KK hK
      go_simp
      refine (neg_q _ _ _ _ _ _ _ _ 12 _ (r1.below hx.out) (by omega) (by omega)).mono ?_
      rintro e w' ⟨A', n', c', B', m', d', rfl, hc', hb'⟩
      exact hK.out _ _ ⟨A', n', c', B', m', d', rfl, hc'⟩ hb'
    simp only [Act.put, List.setIfInBounds_toArray, List.set_cons_zero, List.set_cons_succ]
    refine Tab.cons IsQL.lasting (fun wx hx hd => ?_) (fun v105 => ?_)
    · skip
      have e102 : v102 = _ := (hd _ (.tail _ (.tail _ (.head _))) (by kernel_rfl) : (IsV (.agg #[.bool s1, .slice A1 n1 c1, .slice B1 m1 d1])) v102 wx)
      subst e102
      obtain ⟨A104, n104, c104, B104, m104, d104, rfl, h104⟩ := (hd _ (.head _) (by kernel_rfl) : (IsQ (-a) 12) v104 wx)
      clear hd
      intro KK hK
      go_simp
      exact hK.out _ _ ⟨_, rfl, ql_two rfl (r1.below hx.out) h104.raw (by omega) (by omega)⟩ (below_alloc _ _)
    simp only [Act.put, List.setIfInBounds_toArray, List.set_cons_zero, List.set_cons_succ]
    refine Tab.cons IsQ.lasting (fun wx hx hd => ?_) (fun v106 => ?_)
    · skip
      obtain ⟨g105, rfl, h105⟩ := (hd _ (.head _) (by kernel_rfl) : (IsQL [a, -a] 12) v105 wx)
      clear hd
      intro KK hK
      go_simp
      refine (qadd_pair h105 (by omega) (by omega)).mono ?_
      rintro e w' ⟨A', n', c', B', m', d', rfl, hc', hb'⟩
      exact hK.out _ _ ⟨A', n', c', B', m', d', rfl, hc'⟩ hb'
    simp only [Act.put, List.setIfInBounds_toArray, List.set_cons_zero, List.set_cons_succ]
    refine Tab.cons IsV.lasting (fun wx hx hd => ?_) (fun v107 => ?_)
    · skip
      obtain ⟨A106, n106, c106, B106, m106, d106, rfl, h106⟩ := (hd _ (.head _) (by kernel_rfl) : (IsQ (a + (-a)) 27) v106 wx)
      clear hd
      intro KK hK
      go_simp
      refine (sign_q _ _ _ _ _ _ _ _ 27 _ h106.raw (by omega)).mono ?_
      rintro e w' ⟨rfl, hb'⟩
      exact hK.out _ _ (int_val (qsign_of_zero (by grind))) hb'
    simp only [Act.put, List.setIfInBounds_toArray, List.set_cons_zero, List.set_cons_succ]
    refine Tab.cons IsV.lasting (fun wx hx hd => ?_) (fun v108 => ?_)
    · skip
      have e107 : v107 = _ := (hd _ (.head _) (by kernel_rfl) : (IsV (.int .i64 0)) v107 wx)
      subst e107
      clear hd
      intro KK hK
      go_simp
      exact hK.out _ _ rfl (Below.refl _ _)
    simp only [Act.put, List.setIfInBounds_toArray, List.set_cons_zero, List.set_cons_succ]
    refine Tab.cons IsV.lasting (fun wx hx hd => ?_) (fun v109 => ?_)
    · skip
      have e108 : v108 = _ := (hd _ (.head _) (by kernel_rfl) : (IsV (.bool true)) v108 wx)
      subst e108
      clear hd
      intro KK hK
      go_simp
      exact hK.out _ _ rfl (Below.refl _ _)
    simp only [Act.put, List.setIfInBounds_toArray, List.set_cons_zero, List.set_cons_succ]
    refine Tab.cons IsV.lasting (fun wx hx hd => ?_) (fun v110 => ?_)
    · skip
      have e109 : v109 = _ := (hd _ (.head _) (by kernel_rfl) : (IsV (.bool true)) v109 wx)
      subst e109
      clear hd
      intro KK hK
      have hcell := (Q1.out.later hx).cells
      go_simp
      exact hK.out _ _ rfl (Below.refl _ _)
    simp only [Act.put, List.setIfInBounds_toArray, List.set_cons_zero, List.set_cons_succ]
    refine Tab.cons IsV.lasting (fun wx hx hd => ?_) (fun v111 => ?_)
    · skip
      have e109 : v109 = _ := (hd _ (.tail _ (.head _)) (by kernel_rfl) : (IsV (.bool true)) v109 wx)
      subst e109
      clear hd
      intro KK hK
      have hcell := (Q2.out.later hx).cells
      go_simp
      exact hK.out _ _ rfl (Below.refl _ _)
    simp only [Act.put, List.setIfInBounds_toArray, List.set_cons_zero, List.set_cons_succ]
    refine Tab.cons IsQL.lasting (fun wx hx hd => ?_) (fun v112 => ?_)
    · skip
      have e110 : v110 = _ := (hd _ (.tail _ (.head _)) (by kernel_rfl) : (IsV (.agg #[.bool s1, .slice A1 n1 c1, .slice B1 m1 d1])) v110 wx)
      subst e110
      have e111 : v111 = _ := (hd _ (.head _) (by kernel_rfl) : (IsV (.agg #[.bool s2, .slice A2 n2 c2, .slice B2 m2 d2])) v111 wx)
      subst e111
      have e109 : v109 = _ := (hd _ (.tail _ (.tail _ (.head _))) (by kernel_rfl) : (IsV (.bool true)) v109 wx)
      subst e109
      clear hd
      intro KK hK
      go_simp
      exact hK.out _ _ ⟨_, rfl, ql_two rfl (r1.below hx.out) (r2.below hx.out) (by omega) (by omega)⟩ (below_alloc _ _)
    simp only [Act.put, List.setIfInBounds_toArray, List.set_cons_zero, List.set_cons_succ]
    refine Tab.cons IsQ.lasting (fun wx hx hd => ?_) (fun v113 => ?_)
    · skip
      obtain ⟨g112, rfl, h112⟩ := (hd _ (.head _) (by kernel_rfl) : (IsQL [a, b] 12) v112 wx)
      have e109 : v109 = _ := (hd _ (.tail _ (.tail _ (.tail _ (.head _)))) (by kernel_rfl) : (IsV (.bool true)) v109 wx)
      subst e109
      clear hd
      intro KK hK
      go_simp
      refine (qadd_pair h112 (by omega) (by omega)).mono ?_
      rintro e w' ⟨A', n', c', B', m', d', rfl, hc', hb'⟩
      exact hK.out _ _ ⟨A', n', c', B', m', d', rfl, hc'⟩ hb'
    simp only [Act.put, List.setIfInBounds_toArray, List.set_cons_zero, List.set_cons_succ]
    refine Tab.cons IsV.lasting (fun wx hx hd => ?_) (fun v114 => ?_)
    · skip
      have e109 : v109 = _ := (hd _ (.tail _ (.tail _ (.tail _ (.tail _ (.head _))))) (by kernel_rfl) : (IsV (.bool true)) v109 wx)
      subst e109
      clear hd
      intro KK hK
      have hcell := (Q2.out.later hx).cells
      go_simp
      exact hK.out _ _ rfl (Below.refl _ _)
    simp only [Act.put, List.setIfInBounds_toArray, List.set_cons_zero, List.set_cons_succ]
    refine Tab.cons IsQ.lasting (fun wx hx hd => ?_) (fun v115 => ?_)
    · skip
      obtain ⟨A113, n113, c113, B113, m113, d113, rfl, h113⟩ := (hd _ (.tail _ (.head _)) (by kernel_rfl) : (IsQ (a + b) 27) v113 wx)
      have e114 : v114 = _ := (hd _ (.head _) (by kernel_rfl) : (IsV (.agg #[.bool s2, .slice A2 n2 c2, .slice B2 m2 d2])) v114 wx)
      subst e114
      have e109 : v109 = _ := (hd _ (.tail _ (.tail _ (.tail _ (.tail _ (.tail _ (.head _)))))) (by kernel_rfl) : (IsV (.bool true)) v109 wx)
      subst e109
      clear hd
      intro KK hK
      go_simp
      refine (qsub_any _ _ _ _ _ _ _ _ 27 _ _ _ _ _ _ _ _ 12 _ h113.raw (r2.below hx.out) (by omega) (by omega) (by omega) (by omega)).mono ?_
      rintro e w' ⟨A', n', c', B', m', d', rfl, hc', hb'⟩
      exact hK.out _ _ ⟨A', n', c', B', m', d', rfl, hc'⟩ hb'
    simp only [Act.put, List.setIfInBounds_toArray, List.set_cons_zero, List.set_cons_succ]
    refine Tab.cons IsV.lasting (fun wx hx hd => ?_) (fun v116 => ?_)
    · skip
      have e109 : v109 = _ := (hd _ (.tail _ (.tail _ (.tail _ (.tail _ (.tail _ (.tail _ (.head _))))))) (by kernel_rfl) : (IsV (.bool true)) v109 wx)
      subst e109
      clear hd
      intro KK hK
      have hcell := (Q1.out.later hx).cells
      go_simp
      exact hK.out _ _ rfl (Below.refl _ _)
    simp only [Act.put, List.setIfInBounds_toArray, List.set_cons_zero, List.set_cons_succ]
    refine Tab.cons IsQ.lasting (fun wx hx hd => ?_) (fun v117 => ?_)
    · skip
      have e116 : v116 = _ := (hd _ (.head _) (by kernel_rfl) : (IsV (.agg #[.bool s1, .slice A1 n1 c1, .slice B1 m1 d1])) v116 wx)
      subst e116
      have e109 : v109 = _ := (hd _ (.tail _ (.tail _ (.tail _ (.tail _ (.tail _ (.tail _ (.tail _ (.head _)))))))) (by kernel_rfl) : (IsV (.bool true)) v109 wx)
      subst e109
      clear hd
      intro KK hK
      go_simp
      refine (trim_q _ _ _ _ _ _ _ _ 12 _ (r1.below hx.out) (by omega) (by omega)).mono ?_
      rintro e w' ⟨A', n', c', B', m', d', rfl, hc', hb'⟩
      exact hK.out _ _ ⟨A', n', c', B', m', d', rfl, hc'⟩ hb'
    simp only [Act.put, List.setIfInBounds_toArray, List.set_cons_zero, List.set_cons_succ]
    refine Tab.cons IsV.lasting (fun wx hx hd => ?_) (fun v118 => ?_)
    · skip
      obtain ⟨A115, n115, c115, B115, m115, d115, rfl, h115⟩ := (hd _ (.tail _ (.tail _ (.head _))) (by kernel_rfl) : (IsQ ((a + b) - b) 40) v115 wx)
      obtain ⟨A117, n117, c117, B117, m117, d117, rfl, h117⟩ := (hd _ (.head _) (by kernel_rfl) : (IsQ (a) 12) v117 wx)
      have e109 : v109 = _ := (hd _ (.tail _ (.tail _ (.tail _ (.tail _ (.tail _ (.tail _ (.tail _ (.tail _ (.head _))))))))) (by kernel_rfl) : (IsV (.bool true)) v109 wx)
      subst e109
      clear hd
      intro KK hK
      go_simp
      refine (same_q_yes h115 h117 (by grind)).mono ?_
      rintro e w' ⟨rfl, hb'⟩
      exact hK.out _ _ rfl hb'
    simp only [Act.put, List.setIfInBounds_toArray, List.set_cons_zero, List.set_cons_succ]
    refine Tab.cons IsV.lasting (fun wx hx hd => ?_) (fun v119 => ?_)
    · skip
      have e109 : v109 = _ := (hd _ (.tail _ (.tail _ (.tail _ (.tail _ (.tail _ (.tail _ (.tail _ (.tail _ (.tail _ (.head _)))))))))) (by kernel_rfl) : (IsV (.bool true)) v109 wx)
      subst e109
      have e118 : v118 = _ := (hd _ (.head _) (by kernel_rfl) : (IsV (.bool true)) v118 wx)
      subst e118
      clear hd
      intro KK hK
      go_simp
      exact hK.out _ _ rfl (Below.refl _ _)
    simp only [Act.put, List.setIfInBounds_toArray, List.set_cons_zero, List.set_cons_succ]
    refine Tab.cons IsV.lasting (fun wx hx hd => ?_) (fun v120 => ?_)
    · skip
      have e119 : v119 = _ := (hd _ (.head _) (by kernel_rfl) : (IsV (.bool true)) v119 wx)
      subst e119
      clear hd
      intro KK hK
      go_simp
      exact hK.out _ _ rfl (Below.refl _ _)
    simp only [Act.put, List.setIfInBounds_toArray, List.set_cons_zero, List.set_cons_succ]
    refine Tab.cons IsV.lasting (fun wx hx hd => ?_) (fun v121 => ?_)
    · skip
      have e120 : v120 = _ := (hd _ (.head _) (by kernel_rfl) : (IsV (.bool true)) v120 wx)
      subst e120
      clear hd
      intro KK hK
      have hcell := (Q1.out.later hx).cells
      go_simp
      exact hK.out _ _ rfl (Below.refl _ _)
    simp only [Act.put, List.setIfInBounds_toArray, List.set_cons_zero, List.set_cons_succ]
    refine Tab.cons IsV.lasting (fun wx hx hd => ?_) (fun v122 => ?_)
    · skip
      have e120 : v120 = _ := (hd _ (.tail _ (.head _)) (by kernel_rfl) : (IsV (.bool true)) v120 wx)
      subst e120
      clear hd
      intro KK hK
      have hcell := (Q2.out.later hx).cells
      go_simp
      exact hK.out _ _ rfl (Below.refl _ _)
    simp only [Act.put, List.setIfInBounds_toArray, List.set_cons_zero, List.set_cons_succ]
    refine Tab.cons IsQL.lasting (fun wx hx hd => ?_) (fun v123 => ?_)
    · skip
      have e121 : v121 = _ := (hd _ (.tail _ (.head _)) (by kernel_rfl) : (IsV (.agg #[.bool s1, .slice A1 n1 c1, .slice B1 m1 d1])) v121 wx)
      subst e121
      have e122 : v122 = _ := (hd _ (.head _) (by kernel_rfl) : (IsV (.agg #[.bool s2, .slice A2 n2 c2, .slice B2 m2 d2])) v122 wx)
      subst e122
      have e120 : v120 = _ := (hd _ (.tail _ (.tail _ (.head _))) (by kernel_rfl) : (IsV (.bool true)) v120 wx)
      subst e120
      clear hd
      intro KK hK
      go_simp
      exact hK.out _ _ ⟨_, rfl, ql_two rfl (r1.below hx.out) (r2.below hx.out) (by omega) (by omega)⟩ (below_alloc _ _)
    simp only [Act.put, List.setIfInBounds_toArray, List.set_cons_zero, List.set_cons_succ]
    refine Tab.cons IsQ.lasting (fun wx hx hd => ?_) (fun v124 => ?_)
    · skip
      obtain ⟨g123, rfl, h123⟩ := (hd _ (.head _) (by kernel_rfl) : (IsQL [a, b] 12) v123 wx)
      have e120 : v120 = _ := (hd _ (.tail _ (.tail _ (.tail _ (.head _)))) (by kernel_rfl) : (IsV (.bool true)) v120 wx)
      subst e120
      clear hd
      intro KK hK
      go_simp
      refine (qadd_pair h123 (by omega) (by omega)).mono ?_
      rintro e w' ⟨A', n', c', B', m', d', rfl, hc', hb'⟩
      exact hK.out _ _ ⟨A', n', c', B', m', d', rfl, hc'⟩ hb'
    simp only [Act.put, List.setIfInBounds_toArray, List.set_cons_zero, List.set_cons_succ]
    refine Tab.cons IsV.lasting (fun wx hx hd => ?_) (fun v125 => ?_)
    · skip
      obtain ⟨A124, n124, c124, B124, m124, d124, rfl, h124⟩ := (hd _ (.head _) (by kernel_rfl) : (IsQ (a + b) 27) v124 wx)
      have e120 : v120 = _ := (hd _ (.tail _ (.tail _ (.tail _ (.tail _ (.head _))))) (by kernel_rfl) : (IsV (.bool true)) v120 wx)
      subst e120
      clear hd
      intro KK hK
      go_simp
      refine (is_can h124 (by omega) (by omega)).mono ?_
      rintro e w' ⟨rfl, hb'⟩
      exact hK.out _ _ rfl hb'
    simp only [Act.put, List.setIfInBounds_toArray, List.set_cons_zero, List.set_cons_succ]
    refine Tab.cons IsV.lasting (fun wx hx hd => ?_) (fun v126 => ?_)
    · skip
      have e120 : v120 = _ := (hd _ (.tail _ (.tail _ (.tail _ (.tail _ (.tail _ (.head _)))))) (by kernel_rfl) : (IsV (.bool true)) v120 wx)
      subst e120
      have e125 : v125 = _ := (hd _ (.head _) (by kernel_rfl) : (IsV (.bool true)) v125 wx)
      subst e125
      clear hd
      intro KK hK
      go_simp
      exact hK.out _ _ rfl (Below.refl _ _)
    simp only [Act.put, List.setIfInBounds_toArray, List.set_cons_zero, List.set_cons_succ]
    refine Tab.cons IsV.lasting (fun wx hx hd => ?_) (fun v127 => ?_)
    · skip
      have e126 : v126 = _ := (hd _ (.head _) (by kernel_rfl) : (IsV (.bool true)) v126 wx)
      subst e126
      clear hd
      intro KK hK
      go_simp
      exact hK.out _ _ rfl (Below.refl _ _)
    simp only [Act.put, List.setIfInBounds_toArray, List.set_cons_zero, List.set_cons_succ]
    refine Tab.cons IsV.lasting (fun wx hx hd => ?_) (fun v128 => ?_)
    · skip
      have e127 : v127 = _ := (hd _ (.head _) (by kernel_rfl) : (IsV (.bool true)) v127 wx)
      subst e127
      clear hd
      intro KK hK
      have hcell := (Q1.out.later hx).cells
      go_simp
      exact hK.out _ _ rfl (Below.refl _ _)
    simp only [Act.put, List.setIfInBounds_toArray, List.set_cons_zero, List.set_cons_succ]
    refine Tab.cons IsV.lasting (fun wx hx hd => ?_) (fun v129 => ?_)
    · skip
      have e127 : v127 = _ := (hd _ (.tail _ (.head _)) (by kernel_rfl) : (IsV (.bool true)) v127 wx)
      subst e127
      clear hd
      intro KK hK
      have hcell := (Q2.out.later hx).cells
      go_simp
      exact hK.out _ _ rfl (Below.refl _ _)
    simp only [Act.put, List.setIfInBounds_toArray, List.set_cons_zero, List.set_cons_succ]
    refine Tab.cons IsQL.lasting (fun wx hx hd => ?_) (fun v130 => ?_)
    · skip
      have e128 : v128 = _ := (hd _ (.tail _ (.head _)) (by kernel_rfl) : (IsV (.agg #[.bool s1, .slice A1 n1 c1, .slice B1 m1 d1])) v128 wx)
      subst e128
      have e129 : v129 = _ := (hd _ (.head _) (by kernel_rfl) : (IsV (.agg #[.bool s2, .slice A2 n2 c2, .slice B2 m2 d2])) v129 wx)
      subst e129
      have e127 : v127 = _ := (hd _ (.tail _ (.tail _ (.head _))) (by kernel_rfl) : (IsV (.bool true)) v127 wx)
      subst e127
      clear hd
      intro KK hK
      go_simp
      exact hK.out _ _ ⟨_, rfl, ql_two rfl (r1.below hx.out) (r2.below hx.out) (by omega) (by omega)⟩ (below_alloc _ _)
    simp only [Act.put, List.setIfInBounds_toArray, List.set_cons_zero, List.set_cons_succ]
    refine Tab.cons IsQ.lasting (fun wx hx hd => ?_) (fun v131 => ?_)
    · skip
      obtain ⟨g130, rfl, h130⟩ := (hd _ (.head _) (by kernel_rfl) : (IsQL [a, b] 12) v130 wx)
      have e127 : v127 = _ := (hd _ (.tail _ (.tail _ (.tail _ (.head _)))) (by kernel_rfl) : (IsV (.bool true)) v127 wx)
      subst e127
      clear hd
      intro KK hK
      go_simp
      refine (qmul_pair h130 (by omega) (by omega)).mono ?_
      rintro e w' ⟨A', n', c', B', m', d', rfl, hc', hb'⟩
      exact hK.out _ _ ⟨A', n', c', B', m', d', rfl, hc'⟩ hb'
    simp only [Act.put, List.setIfInBounds_toArray, List.set_cons_zero, List.set_cons_succ]
    refine Tab.cons IsV.lasting (fun wx hx hd => ?_) (fun v132 => ?_)
    · skip
      obtain ⟨A131, n131, c131, B131, m131, d131, rfl, h131⟩ := (hd _ (.head _) (by kernel_rfl) : (IsQ (a * b) 25) v131 wx)
      have e127 : v127 = _ := (hd _ (.tail _ (.tail _ (.tail _ (.tail _ (.head _))))) (by kernel_rfl) : (IsV (.bool true)) v127 wx)
      subst e127
      clear hd
      intro KK hK
      go_simp
      refine (is_can h131 (by omega) (by omega)).mono ?_
      rintro e w' ⟨rfl, hb'⟩
      exact hK.out _ _ rfl hb'
    simp only [Act.put, List.setIfInBounds_toArray, List.set_cons_zero, List.set_cons_succ]
    refine Tab.cons IsV.lasting (fun wx hx hd => ?_) (fun v133 => ?_)
    · skip
      have e127 : v127 = _ := (hd _ (.tail _ (.tail _ (.tail _ (.tail _ (.tail _ (.head _)))))) (by kernel_rfl) : (IsV (.bool true)) v127 wx)
      subst e127
      have e132 : v132 = _ := (hd _ (.head _) (by kernel_rfl) : (IsV (.bool true)) v132 wx)
      subst e132
      clear hd
      intro KK hK
      go_simp
      exact hK.out _ _ rfl (Below.refl _ _)
    simp only [Act.put, List.setIfInBounds_toArray, List.set_cons_zero, List.set_cons_succ]
    refine Tab.cons IsV.lasting (fun wx hx hd => ?_) (fun v6 => ?_)
    · skip
      have e133 : v133 = _ := (hd _ (.head _) (by kernel_rfl) : (IsV (.bool true)) v133 wx)
      subst e133
      clear hd
      intro KK hK
      go_simp
      exact hK.out _ _ rfl (Below.refl _ _)
    simp only [Act.put, List.setIfInBounds_toArray, List.set_cons_zero, List.set_cons_succ]
    refine Tab.nil fun wx hx hd => ?_
    have e6 : v6 = _ := (hd _ (.head _) : (IsV (.bool true)) v6 wx)
    subst e6
    clear hd
    go_wp2
    go_ret
    exact ⟨by rfl, below_step hx.out hB⟩
end Go.Proofs.Ytlomanhmpbapeaa
