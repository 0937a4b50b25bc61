/- The walk of the law RationalOrders. -/
import Derived.Test.YtlomanhmpbapeaaRatDiv
namespace Go.Proofs.Ytlomanhmpbapeaa
open Go.RowKit

theorem lit_two (w : World) : ∃ V, V = (((w.alloc (.cells #[.int .u32 1] 30)).alloc (.cells #[.int .u32 3] 30)).alloc (.cells #[.int .u32 1] 30)).alloc (.cells #[.int .u32 2] 30) ∧
    Below w.heap.size w V ∧ RawQ V false (some ⟨w.heap.size, 0, none⟩) 1 1 (some ⟨w.heap.size + 1, 0, none⟩) 1 1 (ratOf false 1 3) 1 ∧ RawQ V false (some ⟨w.heap.size + 1 + 1, 0, none⟩) 1 1 (some ⟨w.heap.size + 1 + 1 + 1, 0, none⟩) 1 1 (ratOf false 1 2) 1 := by
  refine ⟨_, rfl, ((((Below.refl _ _).alloc (Nat.le_refl _) _).alloc (by simp) _).alloc (by simp; omega) _).alloc (by simp; omega) _, ?_, ?_⟩
  · have h1 := rd_lit1 (w := w) (x := 1) w.heap.size rfl 1 rfl (by omega) (by omega)
    have h2 := rd_lit1 (w := w.alloc (.cells #[.int .u32 1] 30)) (x := 3) (w.heap.size + 1) (by simp) 3 rfl (by omega) (by omega)
    exact ⟨⟨limbs 1, limbs 3, ((h1.below (below_alloc _ _)).below (below_alloc _ _)).below (below_alloc _ _), (h2.below (below_alloc _ _)).below (below_alloc _ _), by rw [val_limbs, val_limbs]⟩, Nat.le_refl _, Nat.le_refl _⟩
  · have h1 := rd_lit1 (w := (w.alloc (.cells #[.int .u32 1] 30)).alloc (.cells #[.int .u32 3] 30)) (x := 1) (w.heap.size + 1 + 1) (by simp) 1 rfl (by omega) (by omega)
    have h2 := rd_lit1 (w := ((w.alloc (.cells #[.int .u32 1] 30)).alloc (.cells #[.int .u32 3] 30)).alloc (.cells #[.int .u32 1] 30)) (x := 2) (w.heap.size + 1 + 1 + 1) (by simp) 2 rfl (by omega) (by omega)
    exact ⟨⟨limbs 1, limbs 2, h1.below (below_alloc _ _), h2, by rw [val_limbs, val_limbs]⟩, Nat.le_refl _, Nat.le_refl _⟩
theorem third_half : cmpQ (ratOf false 1 3) (ratOf false 1 2) = -1 := by
  unfold cmpQ
  refine qsign_of_neg ?_
  simp only [ratOf, sgn, Rat.mkRat_eq_div]
  grind
theorem cmpQ_bounds (a b : Rat) : -1 ≤ cmpQ a b ∧ cmpQ a b ≤ 1 := qsign_bounds _
theorem mul_small {x y : Int} (h : -1 ≤ x ∧ x ≤ 1) (h' : -1 ≤ y ∧ y ≤ 1) : IntKind.i64.wrap (x * y) = x * y := by
  rcases (show x = -1 ∨ x = 0 ∨ x = 1 by omega) with rfl | rfl | rfl <;> rcases (show y = -1 ∨ y = 0 ∨ y = 1 by omega) with rfl | rfl | rfl <;> decide

set_option maxHeartbeats 8000000 in
set_option maxRecDepth 10000 in
theorem law_RationalOrders (w : World) (s1 : Bool) (A1 : Option Addr) (n1 c1 : Nat) (x1 : List Nat) (B1 : Option Addr) (m1 d1 : Nat) (y1 : List Nat) (g1 : Rd w A1 n1 c1 x1) (sA1 : n1 ≤ 35184372088832) (g1' : Rd w B1 m1 d1 y1) (sB1 : m1 ≤ 35184372088832) (s2 : Bool) (A2 : Option Addr) (n2 c2 : Nat) (x2 : List Nat) (B2 : Option Addr) (m2 d2 : Nat) (y2 : List Nat) (g2 : Rd w A2 n2 c2 x2) (sA2 : n2 ≤ 35184372088832) (g2' : Rd w B2 m2 d2 y2) (sB2 : m2 ≤ 35184372088832) (s3 : Bool) (A3 : Option Addr) (n3 c3 : Nat) (x3 : List Nat) (B3 : Option Addr) (m3 d3 : Nat) (y3 : List Nat) (g3 : Rd w A3 n3 c3 x3) (sA3 : n3 ≤ 35184372088832) (g3' : Rd w B3 m3 d3 y3) (sB3 : m3 ≤ 35184372088832) :
    Calls Try.prog 11 #[.agg #[.bool s1, .slice A1 n1 c1, .slice B1 m1 d1], .agg #[.bool s2, .slice A2 n2 c2, .slice B2 m2 d2], .agg #[.bool s3, .slice A3 n3 c3, .slice B3 m3 d3]] w (Makes (.bool true) w) := by
  obtain ⟨W0, hW, hS, q1, q2, q3⟩ := boxesP3 w s1 A1 n1 c1 B1 m1 d1 s2 A2 n2 c2 B2 m2 d2 s3 A3 n3 c3 B3 m3 d3
  have e1 := g1.below hS
  have e1' := g1'.below hS
  have e2 := g2.below hS
  have e2' := g2'.below hS
  have e3 := g3.below hS
  have e3' := g3'.below hS
  have hlist := rawl_three (s := s1) (t := s2) (u := s3) (g := w.heap.size + 1 + 1 + 1) (by rw [hW]; simp) e1 e1' e2 e2' e3 e3'
  have hcall := longq_any 12 _ 3 3 _ _ hlist (by
    intro t ht
    simp only [List.mem_cons, List.not_mem_nil, or_false] at ht
    rcases ht with rfl | rfl | rfl
    · exact ⟨by rw [e1.len]; exact sA1, by rw [e1'.len]; exact sB1⟩
    · exact ⟨by rw [e2.len]; exact sA2, by rw [e2'.len]; exact sB2⟩
    · exact ⟨by rw [e3.len]; exact sA3, by rw [e3'.len]; exact sB3⟩) (by omega)
  have hB2 := below_step (below_alloc W0 (.cells #[.bool s1, .slice A1 n1 c1, .slice B1 m1 d1, .bool s2, .slice A2 n2 c2, .slice B2 m2 d2, .bool s3, .slice A3 n3 c3, .slice B3 m3 d3] 25)) hS
  have HW := hide hW
  have HCALL := hide hcall
  have q1b := q1.below (below_alloc W0 (.cells #[.bool s1, .slice A1 n1 c1, .slice B1 m1 d1, .bool s2, .slice A2 n2 c2, .slice B2 m2 d2, .bool s3, .slice A3 n3 c3, .slice B3 m3 d3] 25))
  have hc1 := q1.cells
  have q2b := q2.below (below_alloc W0 (.cells #[.bool s1, .slice A1 n1 c1, .slice B1 m1 d1, .bool s2, .slice A2 n2 c2, .slice B2 m2 d2, .bool s3, .slice A3 n3 c3, .slice B3 m3 d3] 25))
  have hc2 := q2.cells
  have q3b := q3.below (below_alloc W0 (.cells #[.bool s1, .slice A1 n1 c1, .slice B1 m1 d1, .bool s2, .slice A2 n2 c2, .slice B2 m2 d2, .bool s3, .slice A3 n3 c3, .slice B3 m3 d3] 25))
  have hc3 := q3.cells
  replace e1 := e1.below (below_alloc W0 (.cells #[.bool s1, .slice A1 n1 c1, .slice B1 m1 d1, .bool s2, .slice A2 n2 c2, .slice B2 m2 d2, .bool s3, .slice A3 n3 c3, .slice B3 m3 d3] 25))
  replace e1' := e1'.below (below_alloc W0 (.cells #[.bool s1, .slice A1 n1 c1, .slice B1 m1 d1, .bool s2, .slice A2 n2 c2, .slice B2 m2 d2, .bool s3, .slice A3 n3 c3, .slice B3 m3 d3] 25))
  replace e2 := e2.below (below_alloc W0 (.cells #[.bool s1, .slice A1 n1 c1, .slice B1 m1 d1, .bool s2, .slice A2 n2 c2, .slice B2 m2 d2, .bool s3, .slice A3 n3 c3, .slice B3 m3 d3] 25))
  replace e2' := e2'.below (below_alloc W0 (.cells #[.bool s1, .slice A1 n1 c1, .slice B1 m1 d1, .bool s2, .slice A2 n2 c2, .slice B2 m2 d2, .bool s3, .slice A3 n3 c3, .slice B3 m3 d3] 25))
  replace e3 := e3.below (below_alloc W0 (.cells #[.bool s1, .slice A1 n1 c1, .slice B1 m1 d1, .bool s2, .slice A2 n2 c2, .slice B2 m2 d2, .bool s3, .slice A3 n3 c3, .slice B3 m3 d3] 25))
  replace e3' := e3'.below (below_alloc W0 (.cells #[.bool s1, .slice A1 n1 c1, .slice B1 m1 d1, .bool s2, .slice A2 n2 c2, .slice B2 m2 d2, .bool s3, .slice A3 n3 c3, .slice B3 m3 d3] 25))
  clear hW hcall hlist sA1 sB1 g1 g1' q1 sA2 sB2 g2 g2' q2 sA3 sB3 g3 g3' q3
  go_enter Try.func11, Try.ntmps11
  go_wp2_with fail
  rw [← HW.out]
  refine HCALL.out.mono ?_
  rintro e w1 ⟨rfl, hb1⟩
  cases hlong : anyLongQ 12 [(s1, x1, y1), (s2, x2, y2), (s3, x3, y3)] with
  | true =>
    clear hlong hc1 hc2 hc3
    go_wp2
    go_ret
    exact ⟨rfl, below_step hb1 hB2⟩
  | false =>
    have hnm1 : n1 + m1 ≤ 12 := by
      have := anyLongQ_false hlong (s1, x1, y1) (by simp)
      rw [e1.len, e1'.len] at this
      exact this
    have hnm2 : n2 + m2 ≤ 12 := by
      have := anyLongQ_false hlong (s2, x2, y2) (by simp)
      rw [e2.len, e2'.len] at this
      exact this
    have hnm3 : n3 + m3 ≤ 12 := by
      have := anyLongQ_false hlong (s3, x3, y3) (by simp)
      rw [e3.len, e3'.len] at this
      exact this
    have hB := below_step hb1 hB2
    have q1c := q1b.below hb1
    have k1 := e1.below hb1
    have k1' := e1'.below hb1
    have q2c := q2b.below hb1
    have k2 := e2.below hb1
    have k2' := e2'.below hb1
    have q3c := q3b.below hb1
    have k3 := e3.below hb1
    have k3' := e3'.below hb1
    clear hlong hb1 hB2 hS HCALL HW hc1 e1 e1' q1b hc2 e2 e2' q2b hc3 e3 e3' q3b
    clear W0
    obtain ⟨W, hW⟩ : ∃ W : World, W = w1 := ⟨_, rfl⟩
    subst hW
    obtain ⟨a, hq1⟩ : ∃ q, q = ratOf s1 (val x1) (val y1) := ⟨_, rfl⟩
    have r1 : RawQ W s1 A1 n1 c1 B1 m1 d1 a 12 := ⟨⟨x1, y1, k1, k1', hq1.symm⟩, by omega, by omega⟩
    have Q1 := hide q1c
    have hc1 := q1c.cells
    obtain ⟨b, hq2⟩ : ∃ q, q = ratOf s2 (val x2) (val y2) := ⟨_, rfl⟩
    have r2 : RawQ W s2 A2 n2 c2 B2 m2 d2 b 12 := ⟨⟨x2, y2, k2, k2', hq2.symm⟩, by omega, by omega⟩
    have Q2 := hide q2c
    have hc2 := q2c.cells
    obtain ⟨c, hq3⟩ : ∃ q, q = ratOf s3 (val x3) (val y3) := ⟨_, rfl⟩
    have r3 : RawQ W s3 A3 n3 c3 B3 m3 d3 c 12 := ⟨⟨x3, y3, k3, k3', hq3.symm⟩, by omega, by omega⟩
    have Q3 := hide q3c
    have hc3 := q3c.cells
    clear hq1 q1c k1 k1' hnm1 hq2 q2c k2 k2' hnm2 hq3 q3c k3 k3' hnm3
    have hF := From.refl W
    obtain ⟨x, hx0⟩ : ∃ x, x = cmpQ a b := ⟨_, rfl⟩
    obtain ⟨y, hy0⟩ : ∃ x, x = cmpQ b c := ⟨_, rfl⟩
    obtain ⟨z, hz0⟩ : ∃ x, x = cmpQ a c := ⟨_, rfl⟩
    obtain ⟨sc, hs0⟩ : ∃ x, x = qsign c := ⟨_, rfl⟩
    have X1 := hide hx0.symm
    have X2 := hide hy0.symm
    have X3 := hide hz0.symm
    have X4 := hide hs0.symm
    have X5 : Hid (cmpQ b a = -x) := by rw [Hid, cmpQ_swap, hx0]
    have X6 : Hid (cmpQ (a + c) (b + c) = x) := by rw [Hid, cmpQ_add, hx0]
    have X7 : Hid (cmpQ (a * c) (b * c) = x * sc) := by rw [Hid, cmpQ_mul, hx0, hs0]
    obtain ⟨b4, hb4⟩ : ∃ b4, b4 = decide (a = b) := ⟨_, rfl⟩
    have X8 : Hid ((x == 0) = b4) := by rw [Hid, hx0, cmpQ_beq, hb4]
    have X9 := hide hb4.symm
    have hxb : -1 ≤ x ∧ x ≤ 1 := by rw [hx0]; exact cmpQ_bounds a b
    have hyb : -1 ≤ y ∧ y ≤ 1 := by rw [hy0]; exact cmpQ_bounds b c
    have hzb : -1 ≤ z ∧ z ≤ 1 := by rw [hz0]; exact cmpQ_bounds a c
    have X10 := hide (mul_small hxb (show -1 ≤ sc ∧ sc ≤ 1 by rw [hs0]; exact qsign_bounds c))
    obtain ⟨b1, hb1⟩ : ∃ b1, b1 = decide (x ≤ 0) := ⟨_, rfl⟩
    obtain ⟨b2, hb2⟩ : ∃ b1, b1 = decide (y ≤ 0) := ⟨_, rfl⟩
    obtain ⟨b3, hb3⟩ : ∃ b1, b1 = decide (0 < z) := ⟨_, rfl⟩
    have U1 := hide hb1.symm
    have U2 := hide hb2.symm
    have U3 := hide hb3.symm
    have U4 : Hid (b1 = true → b2 = true → b3 = false) := by
      intro h1 h2
      rw [hb1, decide_eq_true_eq, hx0] at h1
      rw [hb2, decide_eq_true_eq, hy0] at h2
      rw [hb3, decide_eq_false_iff_not, hz0]
      have := cmpQ_trans h1 h2
      omega
    obtain ⟨hxl, hxh⟩ := hxb
    clear hx0 hy0 hz0 hs0 hb1 hb2 hb3 hb4 hyb hzb
    go_wp2_with fail
    clear hc1 hc2 hc3
    refine wp_region_tab 12 85 [IsV (.agg #[.bool s1, .slice A1 n1 c1, .slice B1 m1 d1]), IsV (.agg #[.bool s2, .slice A2 n2 c2, .slice B2 m2 d2]), IsV (.int .i64 x), IsV (.agg #[.bool s2, .slice A2 n2 c2, .slice B2 m2 d2]), IsV (.agg #[.bool s3, .slice A3 n3 c3, .slice B3 m3 d3]), IsV (.int .i64 y), IsV (.agg #[.bool s1, .slice A1 n1 c1, .slice B1 m1 d1]), IsV (.agg #[.bool s3, .slice A3 n3 c3, .slice B3 m3 d3]), IsV (.int .i64 z), IsV (.int .i64 x), IsV (.int .i64 y), IsV (.int .i64 z)] (From W) (by kernel_rfl) (by kernel_rfl) (by kernel_rfl) rfl From.lasting (From.drew hF) ?_
    simp only [List.take_succ_cons, List.drop_succ_cons, List.take_nil, List.drop_nil]
    refine Tab.cons IsV.lasting (fun wx hx hd => ?_) (fun v15 => ?_)
    · skip
      clear hd
      intro KK hK
      have hcell := (Q1.out.later hx).cells
      go_simp
      exact hK.out _ _ rfl (Below.refl _ _)
    simp only [Act.put, List.setIfInBounds_toArray, List.set_cons_zero, List.set_cons_succ]
    refine Tab.cons IsV.lasting (fun wx hx hd => ?_) (fun v16 => ?_)
    · skip
      clear hd
      intro KK hK
      have hcell := (Q2.out.later hx).cells
      go_simp
      exact hK.out _ _ rfl (Below.refl _ _)
    simp only [Act.put, List.setIfInBounds_toArray, List.set_cons_zero, List.set_cons_succ]
    refine Tab.cons IsV.lasting (fun wx hx hd => ?_) (fun v17 => ?_)
    · skip
      have e15 : v15 = _ := (hd _ (.tail _ (.head _)) (by kernel_rfl) : (IsV (.agg #[.bool s1, .slice A1 n1 c1, .slice B1 m1 d1])) v15 wx)
      subst e15
      have e16 : v16 = _ := (hd _ (.head _) (by kernel_rfl) : (IsV (.agg #[.bool s2, .slice A2 n2 c2, .slice B2 m2 d2])) v16 wx)
      subst e16
      clear hd
      intro KK hK
      go_simp
      refine (qcmp_any _ _ _ _ _ _ _ _ 12 _ _ _ _ _ _ _ _ 12 _ (r1.below hx.out) (r2.below hx.out) (by omega) (by omega) (by omega) (by omega)).mono ?_
      rintro e w' ⟨rfl, hb'⟩
      exact hK.out _ _ (int_val (X1.out)) hb'
    simp only [Act.put, List.setIfInBounds_toArray, List.set_cons_zero, List.set_cons_succ]
    refine Tab.cons IsV.lasting (fun wx hx hd => ?_) (fun v18 => ?_)
    · skip
      clear hd
      intro KK hK
      have hcell := (Q2.out.later hx).cells
      go_simp
      exact hK.out _ _ rfl (Below.refl _ _)
    simp only [Act.put, List.setIfInBounds_toArray, List.set_cons_zero, List.set_cons_succ]
    refine Tab.cons IsV.lasting (fun wx hx hd => ?_) (fun v19 => ?_)
    · skip
      clear hd
      intro KK hK
      have hcell := (Q3.out.later hx).cells
      go_simp
      exact hK.out _ _ rfl (Below.refl _ _)
    simp only [Act.put, List.setIfInBounds_toArray, List.set_cons_zero, List.set_cons_succ]
    refine Tab.cons IsV.lasting (fun wx hx hd => ?_) (fun v20 => ?_)
    · skip
      have e18 : v18 = _ := (hd _ (.tail _ (.head _)) (by kernel_rfl) : (IsV (.agg #[.bool s2, .slice A2 n2 c2, .slice B2 m2 d2])) v18 wx)
      subst e18
      have e19 : v19 = _ := (hd _ (.head _) (by kernel_rfl) : (IsV (.agg #[.bool s3, .slice A3 n3 c3, .slice B3 m3 d3])) v19 wx)
      subst e19
      clear hd
      intro KK hK
      go_simp
      refine (qcmp_any _ _ _ _ _ _ _ _ 12 _ _ _ _ _ _ _ _ 12 _ (r2.below hx.out) (r3.below hx.out) (by omega) (by omega) (by omega) (by omega)).mono ?_
      rintro e w' ⟨rfl, hb'⟩
      exact hK.out _ _ (int_val (X2.out)) hb'
    simp only [Act.put, List.setIfInBounds_toArray, List.set_cons_zero, List.set_cons_succ]
    refine Tab.cons IsV.lasting (fun wx hx hd => ?_) (fun v21 => ?_)
    · skip
      clear hd
      intro KK hK
      have hcell := (Q1.out.later hx).cells
      go_simp
      exact hK.out _ _ rfl (Below.refl _ _)
    simp only [Act.put, List.setIfInBounds_toArray, List.set_cons_zero, List.set_cons_succ]
    refine Tab.cons IsV.lasting (fun wx hx hd => ?_) (fun v22 => ?_)
    · skip
      clear hd
      intro KK hK
      have hcell := (Q3.out.later hx).cells
      go_simp
      exact hK.out _ _ rfl (Below.refl _ _)
    simp only [Act.put, List.setIfInBounds_toArray, List.set_cons_zero, List.set_cons_succ]
    refine Tab.cons IsV.lasting (fun wx hx hd => ?_) (fun v23 => ?_)
    · skip
      have e21 : v21 = _ := (hd _ (.tail _ (.head _)) (by kernel_rfl) : (IsV (.agg #[.bool s1, .slice A1 n1 c1, .slice B1 m1 d1])) v21 wx)
      subst e21
      have e22 : v22 = _ := (hd _ (.head _) (by kernel_rfl) : (IsV (.agg #[.bool s3, .slice A3 n3 c3, .slice B3 m3 d3])) v22 wx)
      subst e22
      clear hd
      intro KK hK
      go_simp
      refine (qcmp_any _ _ _ _ _ _ _ _ 12 _ _ _ _ _ _ _ _ 12 _ (r1.below hx.out) (r3.below hx.out) (by omega) (by omega) (by omega) (by omega)).mono ?_
      rintro e w' ⟨rfl, hb'⟩
      exact hK.out _ _ (int_val (X3.out)) hb'
    simp only [Act.put, List.setIfInBounds_toArray, List.set_cons_zero, List.set_cons_succ]
    refine Tab.cons IsV.lasting (fun wx hx hd => ?_) (fun v7 => ?_)
    · skip
      have e17 : v17 = _ := (hd _ (.tail _ (.tail _ (.tail _ (.tail _ (.tail _ (.tail _ (.head _))))))) (by kernel_rfl) : (IsV (.int .i64 x)) v17 wx)
      subst e17
      clear hd
      intro KK hK
      go_simp
      exact hK.out _ _ rfl (Below.refl _ _)
    simp only [Act.put, List.setIfInBounds_toArray, List.set_cons_zero, List.set_cons_succ]
    refine Tab.cons IsV.lasting (fun wx hx hd => ?_) (fun v8 => ?_)
    · skip
      have e20 : v20 = _ := (hd _ (.tail _ (.tail _ (.tail _ (.tail _ (.head _))))) (by kernel_rfl) : (IsV (.int .i64 y)) v20 wx)
      subst e20
      clear hd
      intro KK hK
      go_simp
      exact hK.out _ _ rfl (Below.refl _ _)
    simp only [Act.put, List.setIfInBounds_toArray, List.set_cons_zero, List.set_cons_succ]
    refine Tab.cons IsV.lasting (fun wx hx hd => ?_) (fun v9 => ?_)
    · skip
      have e23 : v23 = _ := (hd _ (.tail _ (.tail _ (.head _))) (by kernel_rfl) : (IsV (.int .i64 z)) v23 wx)
      subst e23
      clear hd
      intro KK hK
      go_simp
      exact hK.out _ _ rfl (Below.refl _ _)
    simp only [Act.put, List.setIfInBounds_toArray, List.set_cons_zero, List.set_cons_succ]
    refine Tab.nil fun wx hx hd => ?_
    have e7 : v7 = _ := (hd _ (.tail _ (.tail _ (.head _))) : (IsV (.int .i64 x)) v7 wx)
    subst e7
    have e8 : v8 = _ := (hd _ (.tail _ (.head _)) : (IsV (.int .i64 y)) v8 wx)
    subst e8
    have e9 : v9 = _ := (hd _ (.head _) : (IsV (.int .i64 z)) v9 wx)
    subst e9
    clear hd
    replace Q1 := hide (Q1.out.later hx)
    replace Q2 := hide (Q2.out.later hx)
    replace Q3 := hide (Q3.out.later hx)
    replace r1 := r1.below hx.out
    replace r2 := r2.below hx.out
    replace r3 := r3.below hx.out
    replace hB := below_step hx.out hB
    clear hF hx
    clear W
    obtain ⟨W, hW⟩ : ∃ W : World, W = wx := ⟨_, rfl⟩
    subst hW
    have hF := From.refl W
    obtain ⟨V, hV, hSV, r4, r5⟩ := lit_two W
    have HV := hide hV
    clear hV
    go_wp2_with fail
    rw [← HV.out]
    refine (qcmp_any _ _ _ _ _ _ _ _ 1 _ _ _ _ _ _ _ _ 1 _ r4 r5 (by omega) (by omega) (by omega) (by omega)).mono ?_
    rw [third_half]
    rintro e w2 ⟨rfl, hb2⟩
    replace hF : From W w2 := From.step hSV hb2
    replace Q1 := hide (Q1.out.later hF)
    replace Q2 := hide (Q2.out.later hF)
    replace Q3 := hide (Q3.out.later hF)
    replace r1 := r1.below hF.out
    replace r2 := r2.below hF.out
    replace r3 := r3.below hF.out
    replace hB := below_step hF.out hB
    have hc1 := Q1.out.cells
    have hc2 := Q2.out.cells
    clear hF hSV r4 r5 HV hb2
    go_wp2_with fail
    refine (qcmp_any _ _ _ _ _ _ _ _ 12 _ _ _ _ _ _ _ _ 12 _ r2 r1 (by omega) (by omega) (by omega) (by omega)).mono ?_
    rw [X5.out]
    rintro e w3 ⟨rfl, hb3⟩
    have hx := From.step (From.refl w2) hb3
    replace Q1 := hide (Q1.out.later hx)
    replace Q2 := hide (Q2.out.later hx)
    replace Q3 := hide (Q3.out.later hx)
    replace r1 := r1.below hx.out
    replace r2 := r2.below hx.out
    replace r3 := r3.below hx.out
    replace hB := below_step hx.out hB
    clear hx hb3 hc1 hc2
    obtain ⟨W9, hW9⟩ : ∃ W9 : World, W9 = w3 := ⟨_, rfl⟩
    subst hW9
    obtain ⟨W8, hW8⟩ : ∃ W8 : World, W8 = W := ⟨_, rfl⟩
    subst hW8
    obtain ⟨W, hW⟩ : ∃ W : World, W = W9 := ⟨_, rfl⟩
    subst hW
    have hF := From.refl W
    go_wp2_with fail
    refine wp_region_tab 20 85 [IsV (.int .i64 x), IsV (.bool b1), IsV (.bool b1), IsV (bif b1 then .int .i64 y else undef), IsV (bif b1 then .bool b2 else undef), IsV (.bool (b1 && b2)), IsV (.bool (b1 && b2)), IsV (bif (b1 && b2) then .int .i64 z else undef), IsV (bif (b1 && b2) then .bool b3 else undef), IsV (.bool false), IsV (.bool false), IsV (.int .i64 x), IsV (.bool b4), IsV (.agg #[.bool s1, .slice A1 n1 c1, .slice B1 m1 d1]), IsQ (a) 12, IsV (.agg #[.bool s2, .slice A2 n2 c2, .slice B2 m2 d2]), IsQ (b) 12, IsV (.bool b4), IsV (.bool false), IsV (.bool false)] (From W) (by kernel_rfl) (by kernel_rfl) (by kernel_rfl) rfl From.lasting (From.drew hF) ?_
    simp only [List.take_succ_cons, List.drop_succ_cons, List.take_nil, List.drop_nil]
    refine Tab.cons IsV.lasting (fun wx hx hd => ?_) (fun v40 => ?_)
    · skip
      clear hd
      intro KK hK
      go_simp
      exact hK.out _ _ rfl (Below.refl _ _)
    simp only [Act.put, List.setIfInBounds_toArray, List.set_cons_zero, List.set_cons_succ]
    refine Tab.cons IsV.lasting (fun wx hx hd => ?_) (fun v41 => ?_)
    · skip
      have e40 : v40 = _ := (hd _ (.head _) (by kernel_rfl) : (IsV (.int .i64 x)) v40 wx)
      subst e40
      clear hd
      intro KK hK
      go_simp
      first | exact hK.out _ _ rfl (Below.refl _ _) | exact hK.out _ _ (bool_val U1.out) (Below.refl _ _)
    simp only [Act.put, List.setIfInBounds_toArray, List.set_cons_zero, List.set_cons_succ]
    refine Tab.cons IsV.lasting (fun wx hx hd => ?_) (fun v42 => ?_)
    · skip
      have e41 : v41 = _ := (hd _ (.head _) (by kernel_rfl) : (IsV (.bool b1)) v41 wx)
      subst e41
      clear hd
      intro KK hK
      go_simp
      first | exact hK.out _ _ rfl (Below.refl _ _)
    simp only [Act.put, List.setIfInBounds_toArray, List.set_cons_zero, List.set_cons_succ]
    refine Tab.cons IsV.lasting (fun wx hx hd => ?_) (fun v43 => ?_)
    · skip
      have e42 : v42 = _ := (hd _ (.head _) (by kernel_rfl) : (IsV (.bool b1)) v42 wx)
      subst e42
      clear hd
      intro KK hK
      cases b1 <;> go_simp <;> (first | exact hK.out _ _ rfl (Below.refl _ _) | exact hK.out _ _ (bool_val U2.out) (Below.refl _ _) | exact hK.out _ _ (bool_val rfl) (Below.refl _ _))
    simp only [Act.put, List.setIfInBounds_toArray, List.set_cons_zero, List.set_cons_succ]
    refine Tab.cons IsV.lasting (fun wx hx hd => ?_) (fun v44 => ?_)
    · skip
      have e43 : v43 = _ := (hd _ (.head _) (by kernel_rfl) : (IsV (bif b1 then .int .i64 y else undef)) v43 wx)
      subst e43
      have e42 : v42 = _ := (hd _ (.tail _ (.head _)) (by kernel_rfl) : (IsV (.bool b1)) v42 wx)
      subst e42
      clear hd
      intro KK hK
      cases b1 <;> go_simp <;> (first | exact hK.out _ _ rfl (Below.refl _ _) | exact hK.out _ _ (bool_val U2.out) (Below.refl _ _) | exact hK.out _ _ (bool_val rfl) (Below.refl _ _))
    simp only [Act.put, List.setIfInBounds_toArray, List.set_cons_zero, List.set_cons_succ]
    refine Tab.cons IsV.lasting (fun wx hx hd => ?_) (fun v45 => ?_)
    · skip
      have e42 : v42 = _ := (hd _ (.tail _ (.tail _ (.head _))) (by kernel_rfl) : (IsV (.bool b1)) v42 wx)
      subst e42
      have e44 : v44 = _ := (hd _ (.head _) (by kernel_rfl) : (IsV (bif b1 then .bool b2 else undef)) v44 wx)
      subst e44
      clear hd
      intro KK hK
      cases b1 <;> go_simp <;> (first | exact hK.out _ _ rfl (Below.refl _ _) | exact hK.out _ _ (bool_val U2.out) (Below.refl _ _) | exact hK.out _ _ (bool_val rfl) (Below.refl _ _))
    simp only [Act.put, List.setIfInBounds_toArray, List.set_cons_zero, List.set_cons_succ]
    refine Tab.cons IsV.lasting (fun wx hx hd => ?_) (fun v46 => ?_)
    · skip
      have e45 : v45 = _ := (hd _ (.head _) (by kernel_rfl) : (IsV (.bool (b1 && b2))) v45 wx)
      subst e45
      clear hd
      intro KK hK
      go_simp
      first | exact hK.out _ _ rfl (Below.refl _ _)
    simp only [Act.put, List.setIfInBounds_toArray, List.set_cons_zero, List.set_cons_succ]
    refine Tab.cons IsV.lasting (fun wx hx hd => ?_) (fun v47 => ?_)
    · skip
      have e46 : v46 = _ := (hd _ (.head _) (by kernel_rfl) : (IsV (.bool (b1 && b2))) v46 wx)
      subst e46
      clear hd
      intro KK hK
      cases b1 <;> cases b2 <;> go_simp <;> (first | exact hK.out _ _ rfl (Below.refl _ _) | exact hK.out _ _ (bool_val U3.out) (Below.refl _ _) | exact hK.out _ _ (bool_val (U4.out rfl rfl)) (Below.refl _ _))
    simp only [Act.put, List.setIfInBounds_toArray, List.set_cons_zero, List.set_cons_succ]
    refine Tab.cons IsV.lasting (fun wx hx hd => ?_) (fun v48 => ?_)
    · skip
      have e47 : v47 = _ := (hd _ (.head _) (by kernel_rfl) : (IsV (bif (b1 && b2) then .int .i64 z else undef)) v47 wx)
      subst e47
      have e46 : v46 = _ := (hd _ (.tail _ (.head _)) (by kernel_rfl) : (IsV (.bool (b1 && b2))) v46 wx)
      subst e46
      clear hd
      intro KK hK
      cases b1 <;> cases b2 <;> go_simp <;> (first | exact hK.out _ _ rfl (Below.refl _ _) | exact hK.out _ _ (bool_val U3.out) (Below.refl _ _) | exact hK.out _ _ (bool_val (U4.out rfl rfl)) (Below.refl _ _))
    simp only [Act.put, List.setIfInBounds_toArray, List.set_cons_zero, List.set_cons_succ]
    refine Tab.cons IsV.lasting (fun wx hx hd => ?_) (fun v49 => ?_)
    · skip
      have e46 : v46 = _ := (hd _ (.tail _ (.tail _ (.head _))) (by kernel_rfl) : (IsV (.bool (b1 && b2))) v46 wx)
      subst e46
      have e48 : v48 = _ := (hd _ (.head _) (by kernel_rfl) : (IsV (bif (b1 && b2) then .bool b3 else undef)) v48 wx)
      subst e48
      clear hd
      intro KK hK
      cases b1 <;> cases b2 <;> go_simp <;> (first | exact hK.out _ _ rfl (Below.refl _ _) | exact hK.out _ _ (bool_val U3.out) (Below.refl _ _) | exact hK.out _ _ (bool_val (U4.out rfl rfl)) (Below.refl _ _))
    simp only [Act.put, List.setIfInBounds_toArray, List.set_cons_zero, List.set_cons_succ]
    refine Tab.cons IsV.lasting (fun wx hx hd => ?_) (fun v50 => ?_)
    · skip
      have e49 : v49 = _ := (hd _ (.head _) (by kernel_rfl) : (IsV (.bool false)) v49 wx)
      subst e49
      clear hd
      intro KK hK
      go_simp
      exact hK.out _ _ rfl (Below.refl _ _)
    simp only [Act.put, List.setIfInBounds_toArray, List.set_cons_zero, List.set_cons_succ]
    refine Tab.cons IsV.lasting (fun wx hx hd => ?_) (fun v51 => ?_)
    · skip
      have e50 : v50 = _ := (hd _ (.head _) (by kernel_rfl) : (IsV (.bool false)) v50 wx)
      subst e50
      clear hd
      intro KK hK
      go_simp
      exact hK.out _ _ rfl (Below.refl _ _)
    simp only [Act.put, List.setIfInBounds_toArray, List.set_cons_zero, List.set_cons_succ]
    refine Tab.cons IsV.lasting (fun wx hx hd => ?_) (fun v52 => ?_)
    · skip
      have e51 : v51 = _ := (hd _ (.head _) (by kernel_rfl) : (IsV (.int .i64 x)) v51 wx)
      subst e51
      have e50 : v50 = _ := (hd _ (.tail _ (.head _)) (by kernel_rfl) : (IsV (.bool false)) v50 wx)
      subst e50
      clear hd
      intro KK hK
      go_simp
      first | exact hK.out _ _ rfl (Below.refl _ _) | exact hK.out _ _ (bool_val X8.out) (Below.refl _ _)
    simp only [Act.put, List.setIfInBounds_toArray, List.set_cons_zero, List.set_cons_succ]
    refine Tab.cons IsV.lasting (fun wx hx hd => ?_) (fun v53 => ?_)
    · skip
      have e50 : v50 = _ := (hd _ (.tail _ (.tail _ (.head _))) (by kernel_rfl) : (IsV (.bool false)) v50 wx)
      subst e50
      clear hd
      intro KK hK
      have hcell := (Q1.out.later hx).cells
      go_simp
      exact hK.out _ _ rfl (Below.refl _ _)
    simp only [Act.put, List.setIfInBounds_toArray, List.set_cons_zero, List.set_cons_succ]
    refine Tab.cons IsQ.lasting (fun wx hx hd => ?_) (fun v54 => ?_)
    · skip
      have e53 : v53 = _ := (hd _ (.head _) (by kernel_rfl) : (IsV (.agg #[.bool s1, .slice A1 n1 c1, .slice B1 m1 d1])) v53 wx)
      subst e53
      have e50 : v50 = _ := (hd _ (.tail _ (.tail _ (.tail _ (.head _)))) (by kernel_rfl) : (IsV (.bool false)) v50 wx)
      subst e50
      clear hd
      intro KK hK
      go_simp
      refine (trim_q _ _ _ _ _ _ _ _ 12 _ (r1.below hx.out) (by omega) (by omega)).mono ?_
      rintro e w' ⟨A', n', c', B', m', d', rfl, hc', hb'⟩
      exact hK.out _ _ ⟨A', n', c', B', m', d', rfl, hc'⟩ hb'
    simp only [Act.put, List.setIfInBounds_toArray, List.set_cons_zero, List.set_cons_succ]
    refine Tab.cons IsV.lasting (fun wx hx hd => ?_) (fun v55 => ?_)
    · skip
      have e50 : v50 = _ := (hd _ (.tail _ (.tail _ (.tail _ (.tail _ (.head _))))) (by kernel_rfl) : (IsV (.bool false)) v50 wx)
      subst e50
      clear hd
      intro KK hK
      have hcell := (Q2.out.later hx).cells
      go_simp
      exact hK.out _ _ rfl (Below.refl _ _)
    simp only [Act.put, List.setIfInBounds_toArray, List.set_cons_zero, List.set_cons_succ]
    refine Tab.cons IsQ.lasting (fun wx hx hd => ?_) (fun v56 => ?_)
    · skip
      have e55 : v55 = _ := (hd _ (.head _) (by kernel_rfl) : (IsV (.agg #[.bool s2, .slice A2 n2 c2, .slice B2 m2 d2])) v55 wx)
      subst e55
      have e50 : v50 = _ := (hd _ (.tail _ (.tail _ (.tail _ (.tail _ (.tail _ (.head _)))))) (by kernel_rfl) : (IsV (.bool false)) v50 wx)
      subst e50
      clear hd
      intro KK hK
      go_simp
      refine (trim_q _ _ _ _ _ _ _ _ 12 _ (r2.below hx.out) (by omega) (by omega)).mono ?_
      rintro e w' ⟨A', n', c', B', m', d', rfl, hc', hb'⟩
      exact hK.out _ _ ⟨A', n', c', B', m', d', rfl, hc'⟩ hb'
    simp only [Act.put, List.setIfInBounds_toArray, List.set_cons_zero, List.set_cons_succ]
    refine Tab.cons IsV.lasting (fun wx hx hd => ?_) (fun v57 => ?_)
    · skip
      obtain ⟨A54, n54, c54, B54, m54, d54, rfl, h54⟩ := (hd _ (.tail _ (.tail _ (.head _))) (by kernel_rfl) : (IsQ (a) 12) v54 wx)
      obtain ⟨A56, n56, c56, B56, m56, d56, rfl, h56⟩ := (hd _ (.head _) (by kernel_rfl) : (IsQ (b) 12) v56 wx)
      have e50 : v50 = _ := (hd _ (.tail _ (.tail _ (.tail _ (.tail _ (.tail _ (.tail _ (.head _))))))) (by kernel_rfl) : (IsV (.bool false)) v50 wx)
      subst e50
      clear hd
      intro KK hK
      go_simp
      refine (same_q h54 h56).mono ?_
      rw [X9.out]
      rintro e w' ⟨rfl, hb'⟩
      exact hK.out _ _ rfl hb'
    simp only [Act.put, List.setIfInBounds_toArray, List.set_cons_zero, List.set_cons_succ]
    refine Tab.cons IsV.lasting (fun wx hx hd => ?_) (fun v58 => ?_)
    · skip
      have e52 : v52 = _ := (hd _ (.tail _ (.tail _ (.tail _ (.tail _ (.tail _ (.head _)))))) (by kernel_rfl) : (IsV (.bool b4)) v52 wx)
      subst e52
      have e57 : v57 = _ := (hd _ (.head _) (by kernel_rfl) : (IsV (.bool b4)) v57 wx)
      subst e57
      have e50 : v50 = _ := (hd _ (.tail _ (.tail _ (.tail _ (.tail _ (.tail _ (.tail _ (.tail _ (.head _)))))))) (by kernel_rfl) : (IsV (.bool false)) v50 wx)
      subst e50
      clear hd
      intro KK hK
      cases b4 <;> go_simp <;> (first | exact hK.out _ _ rfl (Below.refl _ _))
    simp only [Act.put, List.setIfInBounds_toArray, List.set_cons_zero, List.set_cons_succ]
    refine Tab.cons IsV.lasting (fun wx hx hd => ?_) (fun v59 => ?_)
    · skip
      have e50 : v50 = _ := (hd _ (.tail _ (.tail _ (.tail _ (.tail _ (.tail _ (.tail _ (.tail _ (.tail _ (.head _))))))))) (by kernel_rfl) : (IsV (.bool false)) v50 wx)
      subst e50
      have e58 : v58 = _ := (hd _ (.head _) (by kernel_rfl) : (IsV (.bool false)) v58 wx)
      subst e58
      clear hd
      intro KK hK
      go_simp
      exact hK.out _ _ rfl (Below.refl _ _)
    simp only [Act.put, List.setIfInBounds_toArray, List.set_cons_zero, List.set_cons_succ]
    refine Tab.nil fun wx hx hd => ?_
    have e59 : v59 = _ := (hd _ (.head _) : (IsV (.bool false)) v59 wx)
    subst e59
    clear hd
    replace Q1 := hide (Q1.out.later hx)
    replace Q2 := hide (Q2.out.later hx)
    replace Q3 := hide (Q3.out.later hx)
    replace r1 := r1.below hx.out
    replace r2 := r2.below hx.out
    replace r3 := r3.below hx.out
    replace hB := below_step hx.out hB
    clear hF hx
    clear W
    obtain ⟨W, hW⟩ : ∃ W : World, W = wx := ⟨_, rfl⟩
    subst hW
    have hF := From.refl W
    go_wp2_with fail
    refine wp_region_tab 11 85 [IsV (.agg #[.bool s1, .slice A1 n1 c1, .slice B1 m1 d1]), IsV (.agg #[.bool s3, .slice A3 n3 c3, .slice B3 m3 d3]), IsQL [a, c] 12, IsQ (a + c) 27, IsV (.agg #[.bool s2, .slice A2 n2 c2, .slice B2 m2 d2]), IsV (.agg #[.bool s3, .slice A3 n3 c3, .slice B3 m3 d3]), IsQL [b, c] 12, IsQ (b + c) 27, IsV (.int .i64 x), IsV (.int .i64 x), IsV (.bool false)] (From W) (by kernel_rfl) (by kernel_rfl) (by kernel_rfl) rfl From.lasting (From.drew hF) ?_
    simp only [List.take_succ_cons, List.drop_succ_cons, List.take_nil, List.drop_nil]
    refine Tab.cons IsV.lasting (fun wx hx hd => ?_) (fun v60 => ?_)
    · skip
      clear hd
      intro KK hK
      have hcell := (Q1.out.later hx).cells
      go_simp
      exact hK.out _ _ rfl (Below.refl _ _)
    simp only [Act.put, List.setIfInBounds_toArray, List.set_cons_zero, List.set_cons_succ]
    refine Tab.cons IsV.lasting (fun wx hx hd => ?_) (fun v61 => ?_)
    · skip
      clear hd
      intro KK hK
      have hcell := (Q3.out.later hx).cells
      go_simp
      exact hK.out _ _ rfl (Below.refl _ _)
    simp only [Act.put, List.setIfInBounds_toArray, List.set_cons_zero, List.set_cons_succ]
    refine Tab.cons IsQL.lasting (fun wx hx hd => ?_) (fun v62 => ?_)
    · skip
      have e60 : v60 = _ := (hd _ (.tail _ (.head _)) (by kernel_rfl) : (IsV (.agg #[.bool s1, .slice A1 n1 c1, .slice B1 m1 d1])) v60 wx)
      subst e60
      have e61 : v61 = _ := (hd _ (.head _) (by kernel_rfl) : (IsV (.agg #[.bool s3, .slice A3 n3 c3, .slice B3 m3 d3])) v61 wx)
      subst e61
      clear hd
      intro KK hK
      go_simp
      exact hK.out _ _ ⟨_, rfl, ql_two rfl (r1.below hx.out) (r3.below hx.out) (by omega) (by omega)⟩ (below_alloc _ _)
    simp only [Act.put, List.setIfInBounds_toArray, List.set_cons_zero, List.set_cons_succ]
    refine Tab.cons IsQ.lasting (fun wx hx hd => ?_) (fun v63 => ?_)
    · skip
      obtain ⟨g62, rfl, h62⟩ := (hd _ (.head _) (by kernel_rfl) : (IsQL [a, c] 12) v62 wx)
      clear hd
      intro KK hK
      go_simp
      refine (qadd_pair h62 (by omega) (by omega)).mono ?_
      rintro e w' ⟨A', n', c', B', m', d', rfl, hc', hb'⟩
      exact hK.out _ _ ⟨A', n', c', B', m', d', rfl, hc'⟩ hb'
    simp only [Act.put, List.setIfInBounds_toArray, List.set_cons_zero, List.set_cons_succ]
    refine Tab.cons IsV.lasting (fun wx hx hd => ?_) (fun v64 => ?_)
    · skip
      clear hd
      intro KK hK
      have hcell := (Q2.out.later hx).cells
      go_simp
      exact hK.out _ _ rfl (Below.refl _ _)
    simp only [Act.put, List.setIfInBounds_toArray, List.set_cons_zero, List.set_cons_succ]
    refine Tab.cons IsV.lasting (fun wx hx hd => ?_) (fun v65 => ?_)
    · skip
      clear hd
      intro KK hK
      have hcell := (Q3.out.later hx).cells
      go_simp
      exact hK.out _ _ rfl (Below.refl _ _)
    simp only [Act.put, List.setIfInBounds_toArray, List.set_cons_zero, List.set_cons_succ]
    refine Tab.cons IsQL.lasting (fun wx hx hd => ?_) (fun v66 => ?_)
    · skip
      have e64 : v64 = _ := (hd _ (.tail _ (.head _)) (by kernel_rfl) : (IsV (.agg #[.bool s2, .slice A2 n2 c2, .slice B2 m2 d2])) v64 wx)
      subst e64
      have e65 : v65 = _ := (hd _ (.head _) (by kernel_rfl) : (IsV (.agg #[.bool s3, .slice A3 n3 c3, .slice B3 m3 d3])) v65 wx)
      subst e65
      clear hd
      intro KK hK
      go_simp
      exact hK.out _ _ ⟨_, rfl, ql_two rfl (r2.below hx.out) (r3.below hx.out) (by omega) (by omega)⟩ (below_alloc _ _)
    simp only [Act.put, List.setIfInBounds_toArray, List.set_cons_zero, List.set_cons_succ]
    refine Tab.cons IsQ.lasting (fun wx hx hd => ?_) (fun v67 => ?_)
    · skip
      obtain ⟨g66, rfl, h66⟩ := (hd _ (.head _) (by kernel_rfl) : (IsQL [b, c] 12) v66 wx)
      clear hd
      intro KK hK
      go_simp
      refine (qadd_pair h66 (by omega) (by omega)).mono ?_
      rintro e w' ⟨A', n', c', B', m', d', rfl, hc', hb'⟩
      exact hK.out _ _ ⟨A', n', c', B', m', d', rfl, hc'⟩ hb'
    simp only [Act.put, List.setIfInBounds_toArray, List.set_cons_zero, List.set_cons_succ]
    refine Tab.cons IsV.lasting (fun wx hx hd => ?_) (fun v68 => ?_)
    · skip
      obtain ⟨A63, n63, c63, B63, m63, d63, rfl, h63⟩ := (hd _ (.tail _ (.tail _ (.tail _ (.tail _ (.head _))))) (by kernel_rfl) : (IsQ (a + c) 27) v63 wx)
      obtain ⟨A67, n67, c67, B67, m67, d67, rfl, h67⟩ := (hd _ (.head _) (by kernel_rfl) : (IsQ (b + c) 27) v67 wx)
      clear hd
      intro KK hK
      go_simp
      refine (qcmp_any _ _ _ _ _ _ _ _ 27 _ _ _ _ _ _ _ _ 27 _ h63.raw h67.raw (by omega) (by omega) (by omega) (by omega)).mono ?_
      rintro e w' ⟨rfl, hb'⟩
      exact hK.out _ _ (int_val (X6.out)) hb'
    simp only [Act.put, List.setIfInBounds_toArray, List.set_cons_zero, List.set_cons_succ]
    refine Tab.cons IsV.lasting (fun wx hx hd => ?_) (fun v69 => ?_)
    · skip
      clear hd
      intro KK hK
      go_simp
      exact hK.out _ _ rfl (Below.refl _ _)
    simp only [Act.put, List.setIfInBounds_toArray, List.set_cons_zero, List.set_cons_succ]
    refine Tab.cons IsV.lasting (fun wx hx hd => ?_) (fun v70 => ?_)
    · skip
      have e68 : v68 = _ := (hd _ (.tail _ (.head _)) (by kernel_rfl) : (IsV (.int .i64 x)) v68 wx)
      subst e68
      have e69 : v69 = _ := (hd _ (.head _) (by kernel_rfl) : (IsV (.int .i64 x)) v69 wx)
      subst e69
      clear hd
      intro KK hK
      go_simp
      first | exact hK.out _ _ rfl (Below.refl _ _) | exact hK.out _ _ (bool_val (by simp)) (Below.refl _ _)
    simp only [Act.put, List.setIfInBounds_toArray, List.set_cons_zero, List.set_cons_succ]
    refine Tab.nil fun wx hx hd => ?_
    have e70 : v70 = _ := (hd _ (.head _) : (IsV (.bool false)) v70 wx)
    subst e70
    clear hd
    replace Q1 := hide (Q1.out.later hx)
    replace Q2 := hide (Q2.out.later hx)
    replace Q3 := hide (Q3.out.later hx)
    replace r1 := r1.below hx.out
    replace r2 := r2.below hx.out
    replace r3 := r3.below hx.out
    replace hB := below_step hx.out hB
    clear hF hx
    clear W
    obtain ⟨W, hW⟩ : ∃ W : World, W = wx := ⟨_, rfl⟩
    subst hW
    have hF := From.refl W
    go_wp2_with fail
    refine wp_region_tab 15 85 [IsV (.agg #[.bool s1, .slice A1 n1 c1, .slice B1 m1 d1]), IsV (.agg #[.bool s3, .slice A3 n3 c3, .slice B3 m3 d3]), IsQL [a, c] 12, IsQ (a * c) 25, IsV (.agg #[.bool s2, .slice A2 n2 c2, .slice B2 m2 d2]), IsV (.agg #[.bool s3, .slice A3 n3 c3, .slice B3 m3 d3]), IsQL [b, c] 12, IsQ (b * c) 25, IsV (.int .i64 (x * sc)), IsV (.int .i64 x), IsV (.agg #[.bool s3, .slice A3 n3 c3, .slice B3 m3 d3]), IsV (.int .i64 sc), IsV (.int .i64 (x * sc)), IsV (.bool true), IsV (.bool true)] (From W) (by kernel_rfl) (by kernel_rfl) (by kernel_rfl) rfl From.lasting (From.drew hF) ?_
    simp only [List.take_succ_cons, List.drop_succ_cons, List.take_nil, List.drop_nil]
    refine Tab.cons IsV.lasting (fun wx hx hd => ?_) (fun v71 => ?_)
    · skip
      clear hd
      intro KK hK
      have hcell := (Q1.out.later hx).cells
      go_simp
      exact hK.out _ _ rfl (Below.refl _ _)
    simp only [Act.put, List.setIfInBounds_toArray, List.set_cons_zero, List.set_cons_succ]
    refine Tab.cons IsV.lasting (fun wx hx hd => ?_) (fun v72 => ?_)
    · skip
      clear hd
      intro KK hK
      have hcell := (Q3.out.later hx).cells
      go_simp
      exact hK.out _ _ rfl (Below.refl _ _)
    simp only [Act.put, List.setIfInBounds_toArray, List.set_cons_zero, List.set_cons_succ]
    refine Tab.cons IsQL.lasting (fun wx hx hd => ?_) (fun v73 => ?_)
    · skip
      have e71 : v71 = _ := (hd _ (.tail _ (.head _)) (by kernel_rfl) : (IsV (.agg #[.bool s1, .slice A1 n1 c1, .slice B1 m1 d1])) v71 wx)
      subst e71
      have e72 : v72 = _ := (hd _ (.head _) (by kernel_rfl) : (IsV (.agg #[.bool s3, .slice A3 n3 c3, .slice B3 m3 d3])) v72 wx)
      subst e72
      clear hd
      intro KK hK
      go_simp
      exact hK.out _ _ ⟨_, rfl, ql_two rfl (r1.below hx.out) (r3.below hx.out) (by omega) (by omega)⟩ (below_alloc _ _)
    simp only [Act.put, List.setIfInBounds_toArray, List.set_cons_zero, List.set_cons_succ]
    refine Tab.cons IsQ.lasting (fun wx hx hd => ?_) (fun v74 => ?_)
    · skip
      obtain ⟨g73, rfl, h73⟩ := (hd _ (.head _) (by kernel_rfl) : (IsQL [a, c] 12) v73 wx)
      clear hd
      intro KK hK
      go_simp
      refine (qmul_pair h73 (by omega) (by omega)).mono ?_
      rintro e w' ⟨A', n', c', B', m', d', rfl, hc', hb'⟩
      exact hK.out _ _ ⟨A', n', c', B', m', d', rfl, hc'⟩ hb'
    simp only [Act.put, List.setIfInBounds_toArray, List.set_cons_zero, List.set_cons_succ]
    refine Tab.cons IsV.lasting (fun wx hx hd => ?_) (fun v75 => ?_)
    · skip
      clear hd
      intro KK hK
      have hcell := (Q2.out.later hx).cells
      go_simp
      exact hK.out _ _ rfl (Below.refl _ _)
    simp only [Act.put, List.setIfInBounds_toArray, List.set_cons_zero, List.set_cons_succ]
    refine Tab.cons IsV.lasting (fun wx hx hd => ?_) (fun v76 => ?_)
    · skip
      clear hd
      intro KK hK
      have hcell := (Q3.out.later hx).cells
      go_simp
      exact hK.out _ _ rfl (Below.refl _ _)
    simp only [Act.put, List.setIfInBounds_toArray, List.set_cons_zero, List.set_cons_succ]
    refine Tab.cons IsQL.lasting (fun wx hx hd => ?_) (fun v77 => ?_)
    · skip
      have e75 : v75 = _ := (hd _ (.tail _ (.head _)) (by kernel_rfl) : (IsV (.agg #[.bool s2, .slice A2 n2 c2, .slice B2 m2 d2])) v75 wx)
      subst e75
      have e76 : v76 = _ := (hd _ (.head _) (by kernel_rfl) : (IsV (.agg #[.bool s3, .slice A3 n3 c3, .slice B3 m3 d3])) v76 wx)
      subst e76
      clear hd
      intro KK hK
      go_simp
      exact hK.out _ _ ⟨_, rfl, ql_two rfl (r2.below hx.out) (r3.below hx.out) (by omega) (by omega)⟩ (below_alloc _ _)
    simp only [Act.put, List.setIfInBounds_toArray, List.set_cons_zero, List.set_cons_succ]
    refine Tab.cons IsQ.lasting (fun wx hx hd => ?_) (fun v78 => ?_)
    · skip
      obtain ⟨g77, rfl, h77⟩ := (hd _ (.head _) (by kernel_rfl) : (IsQL [b, c] 12) v77 wx)
      clear hd
      intro KK hK
      go_simp
      refine (qmul_pair h77 (by omega) (by omega)).mono ?_
      rintro e w' ⟨A', n', c', B', m', d', rfl, hc', hb'⟩
      exact hK.out _ _ ⟨A', n', c', B', m', d', rfl, hc'⟩ hb'
    simp only [Act.put, List.setIfInBounds_toArray, List.set_cons_zero, List.set_cons_succ]
    refine Tab.cons IsV.lasting (fun wx hx hd => ?_) (fun v79 => ?_)
    · skip
      obtain ⟨A74, n74, c74, B74, m74, d74, rfl, h74⟩ := (hd _ (.tail _ (.tail _ (.tail _ (.tail _ (.head _))))) (by kernel_rfl) : (IsQ (a * c) 25) v74 wx)
      obtain ⟨A78, n78, c78, B78, m78, d78, rfl, h78⟩ := (hd _ (.head _) (by kernel_rfl) : (IsQ (b * c) 25) v78 wx)
      clear hd
      intro KK hK
      go_simp
      refine (qcmp_any _ _ _ _ _ _ _ _ 25 _ _ _ _ _ _ _ _ 25 _ h74.raw h78.raw (by omega) (by omega) (by omega) (by omega)).mono ?_
      rintro e w' ⟨rfl, hb'⟩
      exact hK.out _ _ (int_val (X7.out)) hb'
    simp only [Act.put, List.setIfInBounds_toArray, List.set_cons_zero, List.set_cons_succ]
    refine Tab.cons IsV.lasting (fun wx hx hd => ?_) (fun v80 => ?_)
    · skip
      clear hd
      intro KK hK
      go_simp
      exact hK.out _ _ rfl (Below.refl _ _)
    simp only [Act.put, List.setIfInBounds_toArray, List.set_cons_zero, List.set_cons_succ]
    refine Tab.cons IsV.lasting (fun wx hx hd => ?_) (fun v81 => ?_)
    · skip
      clear hd
      intro KK hK
      have hcell := (Q3.out.later hx).cells
      go_simp
      exact hK.out _ _ rfl (Below.refl _ _)
    simp only [Act.put, List.setIfInBounds_toArray, List.set_cons_zero, List.set_cons_succ]
    refine Tab.cons IsV.lasting (fun wx hx hd => ?_) (fun v82 => ?_)
    · skip
      have e81 : v81 = _ := (hd _ (.head _) (by kernel_rfl) : (IsV (.agg #[.bool s3, .slice A3 n3 c3, .slice B3 m3 d3])) v81 wx)
      subst e81
      clear hd
      intro KK hK
      go_simp
      refine (sign_q _ _ _ _ _ _ _ _ 12 _ (r3.below hx.out) (by omega)).mono ?_
      rintro e w' ⟨rfl, hb'⟩
      exact hK.out _ _ (int_val (X4.out)) hb'
    simp only [Act.put, List.setIfInBounds_toArray, List.set_cons_zero, List.set_cons_succ]
    refine Tab.cons IsV.lasting (fun wx hx hd => ?_) (fun v83 => ?_)
    · skip
      have e80 : v80 = _ := (hd _ (.tail _ (.tail _ (.head _))) (by kernel_rfl) : (IsV (.int .i64 x)) v80 wx)
      subst e80
      have e82 : v82 = _ := (hd _ (.head _) (by kernel_rfl) : (IsV (.int .i64 sc)) v82 wx)
      subst e82
      clear hd
      intro KK hK
      have hw := X10.out
      go_simp
      first | exact hK.out _ _ rfl (Below.refl _ _) | exact hK.out _ _ (int_val hw) (Below.refl _ _)
    simp only [Act.put, List.setIfInBounds_toArray, List.set_cons_zero, List.set_cons_succ]
    refine Tab.cons IsV.lasting (fun wx hx hd => ?_) (fun v84 => ?_)
    · skip
      have e79 : v79 = _ := (hd _ (.tail _ (.tail _ (.tail _ (.tail _ (.head _))))) (by kernel_rfl) : (IsV (.int .i64 (x * sc))) v79 wx)
      subst e79
      have e83 : v83 = _ := (hd _ (.head _) (by kernel_rfl) : (IsV (.int .i64 (x * sc))) v83 wx)
      subst e83
      clear hd
      intro KK hK
      go_simp
      first | exact hK.out _ _ rfl (Below.refl _ _) | exact hK.out _ _ (bool_val (by simp)) (Below.refl _ _)
    simp only [Act.put, List.setIfInBounds_toArray, List.set_cons_zero, List.set_cons_succ]
    refine Tab.cons IsV.lasting (fun wx hx hd => ?_) (fun v6 => ?_)
    · skip
      have e84 : v84 = _ := (hd _ (.head _) (by kernel_rfl) : (IsV (.bool true)) v84 wx)
      subst e84
      clear hd
      intro KK hK
      go_simp
      exact hK.out _ _ rfl (Below.refl _ _)
    simp only [Act.put, List.setIfInBounds_toArray, List.set_cons_zero, List.set_cons_succ]
    refine Tab.nil fun wx hx hd => ?_
    have e6 : v6 = _ := (hd _ (.head _) : (IsV (.bool true)) v6 wx)
    subst e6
    clear hd
    go_wp2
    go_ret
    exact ⟨by rfl, below_step hx.out hB⟩
end Go.Proofs.Ytlomanhmpbapeaa
