/- The walk of the law SemiringFractions. -/
import Derived.Test.YtlomanhmpbapeaaFrac
namespace Go.Proofs.Ytlomanhmpbapeaa
open Go.RowKit

theorem rdll_one2 {w : World} {A : Option Addr} {n c : Nat} {ll : List (List Nat)} (h : RdL w A n c ll) :
    RdLL (w.alloc (.cells #[.slice A n c] 59)) (some ⟨w.heap.size, 0, none⟩) 1 1 [ll] := by
  refine ⟨rfl, fun _ => ⟨w.heap.size, 0, rfl, by simp, fun j hj => ?_⟩⟩
  obtain rfl : j = 0 := by omega
  exact ⟨A, n, c, by rw [cell_of_row _ _ _ _ _ _ (heap_alloc_new w _)]; rfl, h.below (below_alloc w _)⟩
theorem rdl_six {w : World} {A1 A2 A3 A4 A5 A6 : Option Addr} {n1 c1 n2 c2 n3 c3 n4 c4 n5 c5 n6 c6 : Nat} {l1 l2 l3 l4 l5 l6 : List Nat} (e : TypeId) (h1 : Rd w A1 n1 c1 l1) (h2 : Rd w A2 n2 c2 l2) (h3 : Rd w A3 n3 c3 l3) (h4 : Rd w A4 n4 c4 l4) (h5 : Rd w A5 n5 c5 l5) (h6 : Rd w A6 n6 c6 l6) :
    RdL (w.alloc (.cells #[.slice A1 n1 c1, .slice A2 n2 c2, .slice A3 n3 c3, .slice A4 n4 c4, .slice A5 n5 c5, .slice A6 n6 c6] e)) (some ⟨w.heap.size, 0, none⟩) 6 6 [l1, l2, l3, l4, l5, l6] := by
  refine ⟨rfl, Nat.le_refl _, by decide, fun _ => ⟨w.heap.size, 0, rfl, by simp, fun j hj => ?_⟩⟩
  rcases (show j = 0 ∨ j = 1 ∨ j = 2 ∨ j = 3 ∨ j = 4 ∨ j = 5 by omega) with rfl | rfl | rfl | rfl | rfl | rfl
  · exact ⟨A1, n1, c1, by rw [cell_of_row _ _ _ _ _ _ (heap_alloc_new w _)]; rfl, h1.below (below_alloc w _)⟩
  · exact ⟨A2, n2, c2, by rw [cell_of_row _ _ _ _ _ _ (heap_alloc_new w _)]; rfl, h2.below (below_alloc w _)⟩
  · exact ⟨A3, n3, c3, by rw [cell_of_row _ _ _ _ _ _ (heap_alloc_new w _)]; rfl, h3.below (below_alloc w _)⟩
  · exact ⟨A4, n4, c4, by rw [cell_of_row _ _ _ _ _ _ (heap_alloc_new w _)]; rfl, h4.below (below_alloc w _)⟩
  · exact ⟨A5, n5, c5, by rw [cell_of_row _ _ _ _ _ _ (heap_alloc_new w _)]; rfl, h5.below (below_alloc w _)⟩
  · exact ⟨A6, n6, c6, by rw [cell_of_row _ _ _ _ _ _ (heap_alloc_new w _)]; rfl, h6.below (below_alloc w _)⟩

set_option maxHeartbeats 8000000 in
set_option maxRecDepth 10000 in
theorem law_SemiringFractions (w : World) (s1 : Bool) (A1 : Option Addr) (n1 c1 : Nat) (x1 : List Nat) (B1 : Option Addr) (m1 d1 : Nat) (y1 : List Nat) (g1 : Rd w A1 n1 c1 x1) (sA1 : n1 ≤ 35184372088832) (g1' : Rd w B1 m1 d1 y1) (sB1 : m1 ≤ 35184372088832) (s2 : Bool) (A2 : Option Addr) (n2 c2 : Nat) (x2 : List Nat) (B2 : Option Addr) (m2 d2 : Nat) (y2 : List Nat) (g2 : Rd w A2 n2 c2 x2) (sA2 : n2 ≤ 35184372088832) (g2' : Rd w B2 m2 d2 y2) (sB2 : m2 ≤ 35184372088832) (s3 : Bool) (A3 : Option Addr) (n3 c3 : Nat) (x3 : List Nat) (B3 : Option Addr) (m3 d3 : Nat) (y3 : List Nat) (g3 : Rd w A3 n3 c3 x3) (sA3 : n3 ≤ 35184372088832) (g3' : Rd w B3 m3 d3 y3) (sB3 : m3 ≤ 35184372088832) :
    Calls Try.prog 15 #[.agg #[.bool s1, .slice A1 n1 c1, .slice B1 m1 d1], .agg #[.bool s2, .slice A2 n2 c2, .slice B2 m2 d2], .agg #[.bool s3, .slice A3 n3 c3, .slice B3 m3 d3]] w (Makes (.bool true) w) := by
  obtain ⟨W0, hW, hS, q1, q2, q3⟩ := boxesP3 w s1 A1 n1 c1 B1 m1 d1 s2 A2 n2 c2 B2 m2 d2 s3 A3 n3 c3 B3 m3 d3
  have hz : W0.heap.size = w.heap.size + 1 + 1 + 1 := by rw [hW]; simp
  have e1 := (g1.below hS).below (below_alloc W0 (.cells #[] 57))
  have e1' := (g1'.below hS).below (below_alloc W0 (.cells #[] 57))
  have e2 := (g2.below hS).below (below_alloc W0 (.cells #[] 57))
  have e2' := (g2'.below hS).below (below_alloc W0 (.cells #[] 57))
  have e3 := (g3.below hS).below (below_alloc W0 (.cells #[] 57))
  have e3' := (g3'.below hS).below (below_alloc W0 (.cells #[] 57))
  have hLL := rdll_one2 (rdl_six 23 e1 e1' e2 e2' e3 e3')
  have hlen : ∀ ll ∈ [[x1, y1, x2, y2, x3, y3]], ll.length ≤ 35184372088832 ∧ ∀ l ∈ ll, l.length ≤ 35184372088832 := by
    intro ll hll
    simp only [List.mem_singleton] at hll
    subst hll
    refine ⟨by simp, fun l hl => ?_⟩
    simp only [List.mem_cons, List.not_mem_nil, or_false] at hl
    rcases hl with rfl | rfl | rfl | rfl | rfl | rfl
    · rw [e1.len]; exact sA1
    · rw [e1'.len]; exact sB1
    · rw [e2.len]; exact sA2
    · rw [e2'.len]; exact sB2
    · rw [e3.len]; exact sA3
    · rw [e3'.len]; exact sB3
  have hcall := little_any _ 1 1 _ _ hLL (by omega) hlen
  have hB2 : Below W0.heap.size W0 (((W0.alloc (.cells #[] 57)).alloc (.cells #[.slice A1 n1 c1, .slice B1 m1 d1, .slice A2 n2 c2, .slice B2 m2 d2, .slice A3 n3 c3, .slice B3 m3 d3] 23)).alloc (.cells #[.slice (some ⟨w.heap.size + 1 + 1 + 1 + 1, 0, none⟩) 6 6] 59)) := (((Below.refl _ _).alloc (Nat.le_refl _) _).alloc (by simp) _).alloc (by simp; omega) _
  have z2 : ((W0.alloc (.cells #[] 57)).alloc (.cells #[.slice A1 n1 c1, .slice B1 m1 d1, .slice A2 n2 c2, .slice B2 m2 d2, .slice A3 n3 c3, .slice B3 m3 d3] 23)).heap.size = w.heap.size + 1 + 1 + 1 + 1 + 1 := by simp [hz]
  have z1 : (W0.alloc (.cells #[] 57)).heap.size = w.heap.size + 1 + 1 + 1 + 1 := by simp [hz]
  rw [z2, z1] at hcall
  have HW := hide hW
  have HCALL := hide hcall
  have HZ := hide hz
  have hc1 := q1.cells
  have l1 := e1.len
  have l1' := e1'.len
  have hc2 := q2.cells
  have l2 := e2.len
  have l2' := e2'.len
  have hc3 := q3.cells
  have l3 := e3.len
  have l3' := e3'.len
  clear hW hcall hLL hlen hz z1 z2 sA1 sB1 e1 e1' sA2 sB2 e2 e2' sA3 sB3 e3 e3'
  go_enter Try.func15, Try.ntmps15
  go_wp2_with fail
  rw [← HW.out]
  refine HCALL.out.mono ?_
  rintro e w2 ⟨qq, rfl, hw2, hq⟩
  have hB := below_step hB2 hS
  have Q1 := hide (q1.below hB2)
  have Q2 := hide (q2.below hB2)
  have Q3 := hide (q3.below hB2)
  have k1 := (g1.below hS).below hB2
  have k1' := (g1'.below hS).below hB2
  have k2 := (g2.below hS).below hB2
  have k2' := (g2'.below hS).below hB2
  have k3 := (g3.below hS).below hB2
  have k3' := (g3'.below hS).below hB2
  rw [hw2] at hB Q1 Q2 Q3 k1 k1' k2 k2' k3 k3'
  clear HCALL HW hw2 hB2 hS q1 q2 q3 hc1 hc2 hc3 g1 g1' g2 g2' g3 g3' HZ
  clear W0
  obtain ⟨W, hW⟩ : ∃ W : World, W = w2 := ⟨_, rfl⟩
  subst hW
  cases qq with
  | false =>
    clear hq
    go_wp2_with fail
    refine (alive_any _).mono ?_
    rintro e w3 ⟨rfl, hb3⟩
    go_wp2
    go_ret
    exact ⟨rfl, below_step hb3 hB⟩
  | true =>
    have hsum := hq rfl
    simp only [sizeLL, size1, List.map_cons, List.map_nil, List.sum_cons, List.sum_nil, List.length_cons, List.length_nil, l1, l1', l2, l2', l3, l3'] at hsum
    clear hq l1 l1' l2 l2' l3 l3'
    obtain ⟨a, hq1⟩ : ∃ q, q = ratOf s1 (val x1) (val y1) := ⟨_, rfl⟩
    have r1 : RawQ W s1 A1 n1 c1 B1 m1 d1 a 114 := ⟨⟨x1, y1, k1, k1', hq1.symm⟩, by omega, by omega⟩
    obtain ⟨b, hq2⟩ : ∃ q, q = ratOf s2 (val x2) (val y2) := ⟨_, rfl⟩
    have r2 : RawQ W s2 A2 n2 c2 B2 m2 d2 b 114 := ⟨⟨x2, y2, k2, k2', hq2.symm⟩, by omega, by omega⟩
    obtain ⟨c, hq3⟩ : ∃ q, q = ratOf s3 (val x3) (val y3) := ⟨_, rfl⟩
    have r3 : RawQ W s3 A3 n3 c3 B3 m3 d3 c 114 := ⟨⟨x3, y3, k3, k3', hq3.symm⟩, by omega, by omega⟩
    clear hsum hq1 k1 k1' hq2 k2 k2' hq3 k3 k3'
    go_wp2_with fail
    refine (frac_zero _).mono ?_
    rintro e w3 ⟨A4, n4, c4, B4, m4, d4, rfl, hz, hb3⟩
    go_wp2_with fail
    refine (rint_q 0 _ (by omega)).mono ?_
    rintro e w4 ⟨A5, n5, c5, B5, m5, d5, rfl, hz', hb4⟩
    go_wp2_with fail
    refine (rsame_q_yes (hz.below hb4) hz' rfl).mono ?_
    rintro e w5 ⟨rfl, hb5⟩
    have hF5 := From.step (From.step (From.step (From.refl W) hb3) hb4) hb5
    clear hz hz' hb3 hb4 hb5
    go_wp2_with fail
    refine (frac_one _).mono ?_
    rintro e w6 ⟨A6, n6, c6, B6, m6, d6, rfl, hz, hb6⟩
    go_wp2_with fail
    refine (rint_q 1 _ (by omega)).mono ?_
    rintro e w7 ⟨A7, n7, c7, B7, m7, d7, rfl, hz', hb7⟩
    go_wp2_with fail
    refine (rsame_q_yes (hz.below hb7) hz' rfl).mono ?_
    rintro e w8 ⟨rfl, hb8⟩
    have hF := From.step (From.step (From.step hF5 hb6) hb7) hb8
    clear hz hz' hb6 hb7 hb8 hF5
    obtain ⟨b4, hb4⟩ : ∃ b4, b4 = decide (a = b) := ⟨_, rfl⟩
    obtain ⟨x, hx0⟩ : ∃ x, x = cmpQ a b := ⟨_, rfl⟩
    have X8 : Hid ((x == 0) = b4) := by rw [Hid, hx0, cmpQ_beq, hb4]
    have X9 := hide hb4.symm
    have X1 := hide hx0.symm
    clear hb4 hx0
    obtain ⟨zz, hzz⟩ : ∃ z : Rat, z = 0 := ⟨_, rfl⟩
    obtain ⟨oo, hoo⟩ : ∃ z : Rat, z = 1 := ⟨_, rfl⟩
    have HZZ := hide hzz
    have HOO := hide hoo
    have HAZ : Hid (a + zz = a) := by rw [Hid, hzz, Rat.add_zero]
    have HAO : Hid (a * oo = a) := by rw [Hid, hoo, Rat.mul_one]
    clear hzz hoo
    go_wp2_with fail
    refine wp_region_tab 20 107 [IsV (.agg #[]), IsV (.agg #[.bool s1, .slice A1 n1 c1, .slice B1 m1 d1]), IsV (.agg #[.bool s2, .slice A2 n2 c2, .slice B2 m2 d2]), IsQ (a + b) 231, IsV (.agg #[.bool s1, .slice A1 n1 c1, .slice B1 m1 d1]), IsV (.agg #[.bool s2, .slice A2 n2 c2, .slice B2 m2 d2]), IsQ (a + b) 229, IsV (.bool true), IsV (.bool false), IsV (.bool false), IsV (.agg #[]), IsV (.agg #[.bool s1, .slice A1 n1 c1, .slice B1 m1 d1]), IsV (.agg #[.bool s2, .slice A2 n2 c2, .slice B2 m2 d2]), IsQ (a * b) 229, IsV (.agg #[.bool s1, .slice A1 n1 c1, .slice B1 m1 d1]), IsV (.agg #[.bool s2, .slice A2 n2 c2, .slice B2 m2 d2]), IsQ (a * b) 228, IsV (.bool true), IsV (.bool false), IsV (.bool false)] (From W) (by kernel_rfl) (by kernel_rfl) (by kernel_rfl) rfl From.lasting (From.drew hF) ?_
    simp only [List.take_succ_cons, List.drop_succ_cons, List.take_nil, List.drop_nil]
    refine Tab.cons IsV.lasting (fun wx hx hd => ?_) (fun v38 => ?_)
    · skip
      clear hd
      intro KK hK
      go_simp
      exact hK.out _ _ rfl (Below.refl _ _)
    simp only [Act.put, List.setIfInBounds_toArray, List.set_cons_zero, List.set_cons_succ]
    refine Tab.cons IsV.lasting (fun wx hx hd => ?_) (fun v39 => ?_)
    · skip
      clear hd
      intro KK hK
      have hcell := (Q1.out.later hx).cells
      go_simp
      exact hK.out _ _ rfl (Below.refl _ _)
    simp only [Act.put, List.setIfInBounds_toArray, List.set_cons_zero, List.set_cons_succ]
    refine Tab.cons IsV.lasting (fun wx hx hd => ?_) (fun v40 => ?_)
    · skip
      clear hd
      intro KK hK
      have hcell := (Q2.out.later hx).cells
      go_simp
      exact hK.out _ _ rfl (Below.refl _ _)
    simp only [Act.put, List.setIfInBounds_toArray, List.set_cons_zero, List.set_cons_succ]
    refine Tab.cons IsQ.lasting (fun wx hx hd => ?_) (fun v41 => ?_)
    · skip
      have e38 : v38 = _ := (hd _ (.tail _ (.tail _ (.head _))) (by kernel_rfl) : (IsV (.agg #[])) v38 wx)
      subst e38
      have e39 : v39 = _ := (hd _ (.tail _ (.head _)) (by kernel_rfl) : (IsV (.agg #[.bool s1, .slice A1 n1 c1, .slice B1 m1 d1])) v39 wx)
      subst e39
      have e40 : v40 = _ := (hd _ (.head _) (by kernel_rfl) : (IsV (.agg #[.bool s2, .slice A2 n2 c2, .slice B2 m2 d2])) v40 wx)
      subst e40
      clear hd
      intro KK hK
      go_simp
      refine (frac_add (r1.below hx.out) (r2.below hx.out) 114 (by omega) (by omega) (by omega) (by omega)).mono ?_
      rintro e w' ⟨A', n', c', B', m', d', rfl, hc', hb'⟩
      exact hK.out _ _ ⟨A', n', c', B', m', d', rfl, hc'⟩ hb'
    simp only [Act.put, List.setIfInBounds_toArray, List.set_cons_zero, List.set_cons_succ]
    refine Tab.cons IsV.lasting (fun wx hx hd => ?_) (fun v42 => ?_)
    · skip
      clear hd
      intro KK hK
      have hcell := (Q1.out.later hx).cells
      go_simp
      exact hK.out _ _ rfl (Below.refl _ _)
    simp only [Act.put, List.setIfInBounds_toArray, List.set_cons_zero, List.set_cons_succ]
    refine Tab.cons IsV.lasting (fun wx hx hd => ?_) (fun v43 => ?_)
    · skip
      clear hd
      intro KK hK
      have hcell := (Q2.out.later hx).cells
      go_simp
      exact hK.out _ _ rfl (Below.refl _ _)
    simp only [Act.put, List.setIfInBounds_toArray, List.set_cons_zero, List.set_cons_succ]
    refine Tab.cons IsQ.lasting (fun wx hx hd => ?_) (fun v44 => ?_)
    · skip
      have e42 : v42 = _ := (hd _ (.tail _ (.head _)) (by kernel_rfl) : (IsV (.agg #[.bool s1, .slice A1 n1 c1, .slice B1 m1 d1])) v42 wx)
      subst e42
      have e43 : v43 = _ := (hd _ (.head _) (by kernel_rfl) : (IsV (.agg #[.bool s2, .slice A2 n2 c2, .slice B2 m2 d2])) v43 wx)
      subst e43
      clear hd
      intro KK hK
      go_simp
      refine (radd_q _ _ _ _ _ _ _ _ 114 _ _ _ _ _ _ _ _ 114 _ (r1.below hx.out) (r2.below hx.out) (by omega) (by omega) (by omega) (by omega)).mono ?_
      rintro e w' ⟨A', n', c', B', m', d', rfl, hc', hb'⟩
      exact hK.out _ _ ⟨A', n', c', B', m', d', rfl, hc'⟩ hb'
    simp only [Act.put, List.setIfInBounds_toArray, List.set_cons_zero, List.set_cons_succ]
    refine Tab.cons IsV.lasting (fun wx hx hd => ?_) (fun v45 => ?_)
    · skip
      obtain ⟨A41, n41, c41, B41, m41, d41, rfl, h41⟩ := (hd _ (.tail _ (.tail _ (.tail _ (.head _)))) (by kernel_rfl) : (IsQ (a + b) 231) v41 wx)
      obtain ⟨A44, n44, c44, B44, m44, d44, rfl, h44⟩ := (hd _ (.head _) (by kernel_rfl) : (IsQ (a + b) 229) v44 wx)
      clear hd
      intro KK hK
      go_simp
      refine (rsame_q_yes h41 h44 rfl).mono ?_
      rintro e w' ⟨rfl, hb'⟩
      exact hK.out _ _ rfl hb'
    simp only [Act.put, List.setIfInBounds_toArray, List.set_cons_zero, List.set_cons_succ]
    refine Tab.cons IsV.lasting (fun wx hx hd => ?_) (fun v46 => ?_)
    · skip
      have e45 : v45 = _ := (hd _ (.head _) (by kernel_rfl) : (IsV (.bool true)) v45 wx)
      subst e45
      clear hd
      intro KK hK
      go_simp
      exact hK.out _ _ rfl (Below.refl _ _)
    simp only [Act.put, List.setIfInBounds_toArray, List.set_cons_zero, List.set_cons_succ]
    refine Tab.cons IsV.lasting (fun wx hx hd => ?_) (fun v47 => ?_)
    · skip
      have e46 : v46 = _ := (hd _ (.head _) (by kernel_rfl) : (IsV (.bool false)) v46 wx)
      subst e46
      clear hd
      intro KK hK
      go_simp
      exact hK.out _ _ rfl (Below.refl _ _)
    simp only [Act.put, List.setIfInBounds_toArray, List.set_cons_zero, List.set_cons_succ]
    refine Tab.cons IsV.lasting (fun wx hx hd => ?_) (fun v48 => ?_)
    · skip
      have e47 : v47 = _ := (hd _ (.head _) (by kernel_rfl) : (IsV (.bool false)) v47 wx)
      subst e47
      clear hd
      intro KK hK
      go_simp
      exact hK.out _ _ rfl (Below.refl _ _)
    simp only [Act.put, List.setIfInBounds_toArray, List.set_cons_zero, List.set_cons_succ]
    refine Tab.cons IsV.lasting (fun wx hx hd => ?_) (fun v49 => ?_)
    · skip
      have e47 : v47 = _ := (hd _ (.tail _ (.head _)) (by kernel_rfl) : (IsV (.bool false)) v47 wx)
      subst e47
      clear hd
      intro KK hK
      have hcell := (Q1.out.later hx).cells
      go_simp
      exact hK.out _ _ rfl (Below.refl _ _)
    simp only [Act.put, List.setIfInBounds_toArray, List.set_cons_zero, List.set_cons_succ]
    refine Tab.cons IsV.lasting (fun wx hx hd => ?_) (fun v50 => ?_)
    · skip
      have e47 : v47 = _ := (hd _ (.tail _ (.tail _ (.head _))) (by kernel_rfl) : (IsV (.bool false)) v47 wx)
      subst e47
      clear hd
      intro KK hK
      have hcell := (Q2.out.later hx).cells
      go_simp
      exact hK.out _ _ rfl (Below.refl _ _)
    simp only [Act.put, List.setIfInBounds_toArray, List.set_cons_zero, List.set_cons_succ]
    refine Tab.cons IsQ.lasting (fun wx hx hd => ?_) (fun v51 => ?_)
    · skip
      have e48 : v48 = _ := (hd _ (.tail _ (.tail _ (.head _))) (by kernel_rfl) : (IsV (.agg #[])) v48 wx)
      subst e48
      have e49 : v49 = _ := (hd _ (.tail _ (.head _)) (by kernel_rfl) : (IsV (.agg #[.bool s1, .slice A1 n1 c1, .slice B1 m1 d1])) v49 wx)
      subst e49
      have e50 : v50 = _ := (hd _ (.head _) (by kernel_rfl) : (IsV (.agg #[.bool s2, .slice A2 n2 c2, .slice B2 m2 d2])) v50 wx)
      subst e50
      have e47 : v47 = _ := (hd _ (.tail _ (.tail _ (.tail _ (.head _)))) (by kernel_rfl) : (IsV (.bool false)) v47 wx)
      subst e47
      clear hd
      intro KK hK
      go_simp
      refine (frac_mul (r1.below hx.out) (r2.below hx.out) 114 (by omega) (by omega) (by omega) (by omega)).mono ?_
      rintro e w' ⟨A', n', c', B', m', d', rfl, hc', hb'⟩
      exact hK.out _ _ ⟨A', n', c', B', m', d', rfl, hc'⟩ hb'
    simp only [Act.put, List.setIfInBounds_toArray, List.set_cons_zero, List.set_cons_succ]
    refine Tab.cons IsV.lasting (fun wx hx hd => ?_) (fun v52 => ?_)
    · skip
      have e47 : v47 = _ := (hd _ (.tail _ (.tail _ (.tail _ (.tail _ (.head _))))) (by kernel_rfl) : (IsV (.bool false)) v47 wx)
      subst e47
      clear hd
      intro KK hK
      have hcell := (Q1.out.later hx).cells
      go_simp
      exact hK.out _ _ rfl (Below.refl _ _)
    simp only [Act.put, List.setIfInBounds_toArray, List.set_cons_zero, List.set_cons_succ]
    refine Tab.cons IsV.lasting (fun wx hx hd => ?_) (fun v53 => ?_)
    · skip
      have e47 : v47 = _ := (hd _ (.tail _ (.tail _ (.tail _ (.tail _ (.tail _ (.head _)))))) (by kernel_rfl) : (IsV (.bool false)) v47 wx)
      subst e47
      clear hd
      intro KK hK
      have hcell := (Q2.out.later hx).cells
      go_simp
      exact hK.out _ _ rfl (Below.refl _ _)
    simp only [Act.put, List.setIfInBounds_toArray, List.set_cons_zero, List.set_cons_succ]
    refine Tab.cons IsQ.lasting (fun wx hx hd => ?_) (fun v54 => ?_)
    · skip
      have e52 : v52 = _ := (hd _ (.tail _ (.head _)) (by kernel_rfl) : (IsV (.agg #[.bool s1, .slice A1 n1 c1, .slice B1 m1 d1])) v52 wx)
      subst e52
      have e53 : v53 = _ := (hd _ (.head _) (by kernel_rfl) : (IsV (.agg #[.bool s2, .slice A2 n2 c2, .slice B2 m2 d2])) v53 wx)
      subst e53
      have e47 : v47 = _ := (hd _ (.tail _ (.tail _ (.tail _ (.tail _ (.tail _ (.tail _ (.head _))))))) (by kernel_rfl) : (IsV (.bool false)) v47 wx)
      subst e47
      clear hd
      intro KK hK
      go_simp
      refine (rmul_q _ _ _ _ _ _ _ _ 114 _ _ _ _ _ _ _ _ 114 _ (r1.below hx.out) (r2.below hx.out) (by omega) (by omega) (by omega) (by omega)).mono ?_
      rintro e w' ⟨A', n', c', B', m', d', rfl, hc', hb'⟩
      exact hK.out _ _ ⟨A', n', c', B', m', d', rfl, hc'⟩ hb'
    simp only [Act.put, List.setIfInBounds_toArray, List.set_cons_zero, List.set_cons_succ]
    refine Tab.cons IsV.lasting (fun wx hx hd => ?_) (fun v55 => ?_)
    · skip
      obtain ⟨A51, n51, c51, B51, m51, d51, rfl, h51⟩ := (hd _ (.tail _ (.tail _ (.tail _ (.head _)))) (by kernel_rfl) : (IsQ (a * b) 229) v51 wx)
      obtain ⟨A54, n54, c54, B54, m54, d54, rfl, h54⟩ := (hd _ (.head _) (by kernel_rfl) : (IsQ (a * b) 228) v54 wx)
      have e47 : v47 = _ := (hd _ (.tail _ (.tail _ (.tail _ (.tail _ (.tail _ (.tail _ (.tail _ (.head _)))))))) (by kernel_rfl) : (IsV (.bool false)) v47 wx)
      subst e47
      clear hd
      intro KK hK
      go_simp
      refine (rsame_q_yes h51 h54 rfl).mono ?_
      rintro e w' ⟨rfl, hb'⟩
      exact hK.out _ _ rfl hb'
    simp only [Act.put, List.setIfInBounds_toArray, List.set_cons_zero, List.set_cons_succ]
    refine Tab.cons IsV.lasting (fun wx hx hd => ?_) (fun v56 => ?_)
    · skip
      have e55 : v55 = _ := (hd _ (.head _) (by kernel_rfl) : (IsV (.bool true)) v55 wx)
      subst e55
      have e47 : v47 = _ := (hd _ (.tail _ (.tail _ (.tail _ (.tail _ (.tail _ (.tail _ (.tail _ (.tail _ (.head _))))))))) (by kernel_rfl) : (IsV (.bool false)) v47 wx)
      subst e47
      clear hd
      intro KK hK
      go_simp
      exact hK.out _ _ rfl (Below.refl _ _)
    simp only [Act.put, List.setIfInBounds_toArray, List.set_cons_zero, List.set_cons_succ]
    refine Tab.cons IsV.lasting (fun wx hx hd => ?_) (fun v57 => ?_)
    · skip
      have e47 : v47 = _ := (hd _ (.tail _ (.tail _ (.tail _ (.tail _ (.tail _ (.tail _ (.tail _ (.tail _ (.tail _ (.head _)))))))))) (by kernel_rfl) : (IsV (.bool false)) v47 wx)
      subst e47
      have e56 : v56 = _ := (hd _ (.head _) (by kernel_rfl) : (IsV (.bool false)) v56 wx)
      subst e56
      clear hd
      intro KK hK
      go_simp
      exact hK.out _ _ rfl (Below.refl _ _)
    simp only [Act.put, List.setIfInBounds_toArray, List.set_cons_zero, List.set_cons_succ]
    refine Tab.nil fun wx hx hd => ?_
    have e57 : v57 = _ := (hd _ (.head _) : (IsV (.bool false)) v57 wx)
    subst e57
    clear hd
    clear hF
    have hF := hx
    clear hx
    go_wp2_with fail
    refine wp_region_tab 31 107 [IsV (.agg #[]), IsV (.agg #[.bool s1, .slice A1 n1 c1, .slice B1 m1 d1]), IsV (.agg #[.bool s2, .slice A2 n2 c2, .slice B2 m2 d2]), IsV (.bool b4), IsV (.agg #[.bool s1, .slice A1 n1 c1, .slice B1 m1 d1]), IsV (.agg #[.bool s2, .slice A2 n2 c2, .slice B2 m2 d2]), IsV (.int .i64 x), IsV (.bool b4), IsV (.bool false), IsV (.bool false), IsV (.agg #[]), IsV (.agg #[]), IsV (.agg #[.bool s1, .slice A1 n1 c1, .slice B1 m1 d1]), IsV (.agg #[]), IsQ (zz) 1, IsQ (a + zz) 231, IsV (.agg #[.bool s1, .slice A1 n1 c1, .slice B1 m1 d1]), IsV (.bool true), IsV (.bool false), IsV (.bool false), IsV (.bool false), IsV (.agg #[]), IsV (.agg #[]), IsV (.agg #[.bool s1, .slice A1 n1 c1, .slice B1 m1 d1]), IsV (.agg #[]), IsQ (oo) 1, IsQ (a * oo) 229, IsV (.agg #[.bool s1, .slice A1 n1 c1, .slice B1 m1 d1]), IsV (.bool true), IsV (.bool false), IsV (.bool false)] (From W) (by kernel_rfl) (by kernel_rfl) (by kernel_rfl) rfl From.lasting (From.drew hF) ?_
    simp only [List.take_succ_cons, List.drop_succ_cons, List.take_nil, List.drop_nil]
    refine Tab.cons IsV.lasting (fun wx hx hd => ?_) (fun v58 => ?_)
    · skip
      clear hd
      intro KK hK
      go_simp
      exact hK.out _ _ rfl (Below.refl _ _)
    simp only [Act.put, List.setIfInBounds_toArray, List.set_cons_zero, List.set_cons_succ]
    refine Tab.cons IsV.lasting (fun wx hx hd => ?_) (fun v59 => ?_)
    · skip
      clear hd
      intro KK hK
      have hcell := (Q1.out.later hx).cells
      go_simp
      exact hK.out _ _ rfl (Below.refl _ _)
    simp only [Act.put, List.setIfInBounds_toArray, List.set_cons_zero, List.set_cons_succ]
    refine Tab.cons IsV.lasting (fun wx hx hd => ?_) (fun v60 => ?_)
    · skip
      clear hd
      intro KK hK
      have hcell := (Q2.out.later hx).cells
      go_simp
      exact hK.out _ _ rfl (Below.refl _ _)
    simp only [Act.put, List.setIfInBounds_toArray, List.set_cons_zero, List.set_cons_succ]
    refine Tab.cons IsV.lasting (fun wx hx hd => ?_) (fun v61 => ?_)
    · skip
      have e58 : v58 = _ := (hd _ (.tail _ (.tail _ (.head _))) (by kernel_rfl) : (IsV (.agg #[])) v58 wx)
      subst e58
      have e59 : v59 = _ := (hd _ (.tail _ (.head _)) (by kernel_rfl) : (IsV (.agg #[.bool s1, .slice A1 n1 c1, .slice B1 m1 d1])) v59 wx)
      subst e59
      have e60 : v60 = _ := (hd _ (.head _) (by kernel_rfl) : (IsV (.agg #[.bool s2, .slice A2 n2 c2, .slice B2 m2 d2])) v60 wx)
      subst e60
      clear hd
      intro KK hK
      go_simp
      refine (frac_same (r1.below hx.out) (r2.below hx.out) (by omega) (by omega) (by omega) (by omega)).mono ?_
      rw [X9.out]
      rintro e w' ⟨rfl, hb'⟩
      exact hK.out _ _ rfl hb'
    simp only [Act.put, List.setIfInBounds_toArray, List.set_cons_zero, List.set_cons_succ]
    refine Tab.cons IsV.lasting (fun wx hx hd => ?_) (fun v62 => ?_)
    · skip
      clear hd
      intro KK hK
      have hcell := (Q1.out.later hx).cells
      go_simp
      exact hK.out _ _ rfl (Below.refl _ _)
    simp only [Act.put, List.setIfInBounds_toArray, List.set_cons_zero, List.set_cons_succ]
    refine Tab.cons IsV.lasting (fun wx hx hd => ?_) (fun v63 => ?_)
    · skip
      clear hd
      intro KK hK
      have hcell := (Q2.out.later hx).cells
      go_simp
      exact hK.out _ _ rfl (Below.refl _ _)
    simp only [Act.put, List.setIfInBounds_toArray, List.set_cons_zero, List.set_cons_succ]
    refine Tab.cons IsV.lasting (fun wx hx hd => ?_) (fun v64 => ?_)
    · skip
      have e62 : v62 = _ := (hd _ (.tail _ (.head _)) (by kernel_rfl) : (IsV (.agg #[.bool s1, .slice A1 n1 c1, .slice B1 m1 d1])) v62 wx)
      subst e62
      have e63 : v63 = _ := (hd _ (.head _) (by kernel_rfl) : (IsV (.agg #[.bool s2, .slice A2 n2 c2, .slice B2 m2 d2])) v63 wx)
      subst e63
      clear hd
      intro KK hK
      go_simp
      refine (rcmp_q _ _ _ _ _ _ _ _ 114 _ _ _ _ _ _ _ _ 114 _ (r1.below hx.out) (r2.below hx.out) (by omega) (by omega) (by omega) (by omega)).mono ?_
      rintro e w' ⟨rfl, hb'⟩
      exact hK.out _ _ (int_val (X1.out)) hb'
    simp only [Act.put, List.setIfInBounds_toArray, List.set_cons_zero, List.set_cons_succ]
    refine Tab.cons IsV.lasting (fun wx hx hd => ?_) (fun v65 => ?_)
    · skip
      have e64 : v64 = _ := (hd _ (.head _) (by kernel_rfl) : (IsV (.int .i64 x)) v64 wx)
      subst e64
      clear hd
      intro KK hK
      go_simp
      first | exact hK.out _ _ rfl (Below.refl _ _) | exact hK.out _ _ (bool_val X8.out) (Below.refl _ _)
    simp only [Act.put, List.setIfInBounds_toArray, List.set_cons_zero, List.set_cons_succ]
    refine Tab.cons IsV.lasting (fun wx hx hd => ?_) (fun v66 => ?_)
    · skip
      have e61 : v61 = _ := (hd _ (.tail _ (.tail _ (.tail _ (.tail _ (.head _))))) (by kernel_rfl) : (IsV (.bool b4)) v61 wx)
      subst e61
      have e65 : v65 = _ := (hd _ (.head _) (by kernel_rfl) : (IsV (.bool b4)) v65 wx)
      subst e65
      clear hd
      intro KK hK
      cases b4 <;> go_simp <;> (first | exact hK.out _ _ rfl (Below.refl _ _))
    simp only [Act.put, List.setIfInBounds_toArray, List.set_cons_zero, List.set_cons_succ]
    refine Tab.cons IsV.lasting (fun wx hx hd => ?_) (fun v67 => ?_)
    · skip
      have e66 : v66 = _ := (hd _ (.head _) (by kernel_rfl) : (IsV (.bool false)) v66 wx)
      subst e66
      clear hd
      intro KK hK
      go_simp
      exact hK.out _ _ rfl (Below.refl _ _)
    simp only [Act.put, List.setIfInBounds_toArray, List.set_cons_zero, List.set_cons_succ]
    refine Tab.cons IsV.lasting (fun wx hx hd => ?_) (fun v68 => ?_)
    · skip
      have e67 : v67 = _ := (hd _ (.head _) (by kernel_rfl) : (IsV (.bool false)) v67 wx)
      subst e67
      clear hd
      intro KK hK
      go_simp
      exact hK.out _ _ rfl (Below.refl _ _)
    simp only [Act.put, List.setIfInBounds_toArray, List.set_cons_zero, List.set_cons_succ]
    refine Tab.cons IsV.lasting (fun wx hx hd => ?_) (fun v69 => ?_)
    · skip
      have e67 : v67 = _ := (hd _ (.tail _ (.head _)) (by kernel_rfl) : (IsV (.bool false)) v67 wx)
      subst e67
      clear hd
      intro KK hK
      go_simp
      exact hK.out _ _ rfl (Below.refl _ _)
    simp only [Act.put, List.setIfInBounds_toArray, List.set_cons_zero, List.set_cons_succ]
    refine Tab.cons IsV.lasting (fun wx hx hd => ?_) (fun v70 => ?_)
    · skip
      have e67 : v67 = _ := (hd _ (.tail _ (.tail _ (.head _))) (by kernel_rfl) : (IsV (.bool false)) v67 wx)
      subst e67
      clear hd
      intro KK hK
      have hcell := (Q1.out.later hx).cells
      go_simp
      exact hK.out _ _ rfl (Below.refl _ _)
    simp only [Act.put, List.setIfInBounds_toArray, List.set_cons_zero, List.set_cons_succ]
    refine Tab.cons IsV.lasting (fun wx hx hd => ?_) (fun v71 => ?_)
    · skip
      have e67 : v67 = _ := (hd _ (.tail _ (.tail _ (.tail _ (.head _)))) (by kernel_rfl) : (IsV (.bool false)) v67 wx)
      subst e67
      clear hd
      intro KK hK
      go_simp
      exact hK.out _ _ rfl (Below.refl _ _)
    simp only [Act.put, List.setIfInBounds_toArray, List.set_cons_zero, List.set_cons_succ]
    refine Tab.cons IsQ.lasting (fun wx hx hd => ?_) (fun v72 => ?_)
    · skip
      have e71 : v71 = _ := (hd _ (.head _) (by kernel_rfl) : (IsV (.agg #[])) v71 wx)
      subst e71
      have e67 : v67 = _ := (hd _ (.tail _ (.tail _ (.tail _ (.tail _ (.head _))))) (by kernel_rfl) : (IsV (.bool false)) v67 wx)
      subst e67
      clear hd
      intro KK hK
      go_simp
      refine (frac_zero_eq _ HZZ.out).mono ?_
      rintro e w' ⟨A', n', c', B', m', d', rfl, hc', hb'⟩
      exact hK.out _ _ ⟨A', n', c', B', m', d', rfl, hc'⟩ hb'
    simp only [Act.put, List.setIfInBounds_toArray, List.set_cons_zero, List.set_cons_succ]
    refine Tab.cons IsQ.lasting (fun wx hx hd => ?_) (fun v73 => ?_)
    · skip
      have e69 : v69 = _ := (hd _ (.tail _ (.tail _ (.tail _ (.head _)))) (by kernel_rfl) : (IsV (.agg #[])) v69 wx)
      subst e69
      have e70 : v70 = _ := (hd _ (.tail _ (.tail _ (.head _))) (by kernel_rfl) : (IsV (.agg #[.bool s1, .slice A1 n1 c1, .slice B1 m1 d1])) v70 wx)
      subst e70
      obtain ⟨A72, n72, c72, B72, m72, d72, rfl, h72⟩ := (hd _ (.head _) (by kernel_rfl) : (IsQ (zz) 1) v72 wx)
      have e67 : v67 = _ := (hd _ (.tail _ (.tail _ (.tail _ (.tail _ (.tail _ (.head _)))))) (by kernel_rfl) : (IsV (.bool false)) v67 wx)
      subst e67
      clear hd
      intro KK hK
      go_simp
      refine (frac_add (r1.below hx.out) h72.raw 114 (by omega) (by omega) (by omega) (by omega)).mono ?_
      rintro e w' ⟨A', n', c', B', m', d', rfl, hc', hb'⟩
      exact hK.out _ _ ⟨A', n', c', B', m', d', rfl, hc'⟩ hb'
    simp only [Act.put, List.setIfInBounds_toArray, List.set_cons_zero, List.set_cons_succ]
    refine Tab.cons IsV.lasting (fun wx hx hd => ?_) (fun v74 => ?_)
    · skip
      have e67 : v67 = _ := (hd _ (.tail _ (.tail _ (.tail _ (.tail _ (.tail _ (.tail _ (.head _))))))) (by kernel_rfl) : (IsV (.bool false)) v67 wx)
      subst e67
      clear hd
      intro KK hK
      have hcell := (Q1.out.later hx).cells
      go_simp
      exact hK.out _ _ rfl (Below.refl _ _)
    simp only [Act.put, List.setIfInBounds_toArray, List.set_cons_zero, List.set_cons_succ]
    refine Tab.cons IsV.lasting (fun wx hx hd => ?_) (fun v75 => ?_)
    · skip
      have e68 : v68 = _ := (hd _ (.tail _ (.tail _ (.tail _ (.tail _ (.tail _ (.tail _ (.head _))))))) (by kernel_rfl) : (IsV (.agg #[])) v68 wx)
      subst e68
      obtain ⟨A73, n73, c73, B73, m73, d73, rfl, h73⟩ := (hd _ (.tail _ (.head _)) (by kernel_rfl) : (IsQ (a + zz) 231) v73 wx)
      have e74 : v74 = _ := (hd _ (.head _) (by kernel_rfl) : (IsV (.agg #[.bool s1, .slice A1 n1 c1, .slice B1 m1 d1])) v74 wx)
      subst e74
      have e67 : v67 = _ := (hd _ (.tail _ (.tail _ (.tail _ (.tail _ (.tail _ (.tail _ (.tail _ (.head _)))))))) (by kernel_rfl) : (IsV (.bool false)) v67 wx)
      subst e67
      clear hd
      intro KK hK
      go_simp
      refine (frac_same_yes h73.raw (r1.below hx.out) (by omega) (by omega) (by omega) (by omega) HAZ.out).mono ?_
      rintro e w' ⟨rfl, hb'⟩
      exact hK.out _ _ rfl hb'
    simp only [Act.put, List.setIfInBounds_toArray, List.set_cons_zero, List.set_cons_succ]
    refine Tab.cons IsV.lasting (fun wx hx hd => ?_) (fun v76 => ?_)
    · skip
      have e75 : v75 = _ := (hd _ (.head _) (by kernel_rfl) : (IsV (.bool true)) v75 wx)
      subst e75
      have e67 : v67 = _ := (hd _ (.tail _ (.tail _ (.tail _ (.tail _ (.tail _ (.tail _ (.tail _ (.tail _ (.head _))))))))) (by kernel_rfl) : (IsV (.bool false)) v67 wx)
      subst e67
      clear hd
      intro KK hK
      go_simp
      exact hK.out _ _ rfl (Below.refl _ _)
    simp only [Act.put, List.setIfInBounds_toArray, List.set_cons_zero, List.set_cons_succ]
    refine Tab.cons IsV.lasting (fun wx hx hd => ?_) (fun v77 => ?_)
    · skip
      have e67 : v67 = _ := (hd _ (.tail _ (.tail _ (.tail _ (.tail _ (.tail _ (.tail _ (.tail _ (.tail _ (.tail _ (.head _)))))))))) (by kernel_rfl) : (IsV (.bool false)) v67 wx)
      subst e67
      have e76 : v76 = _ := (hd _ (.head _) (by kernel_rfl) : (IsV (.bool false)) v76 wx)
      subst e76
      clear hd
      intro KK hK
      go_simp
      exact hK.out _ _ rfl (Below.refl _ _)
    simp only [Act.put, List.setIfInBounds_toArray, List.set_cons_zero, List.set_cons_succ]
    refine Tab.cons IsV.lasting (fun wx hx hd => ?_) (fun v78 => ?_)
    · skip
      have e77 : v77 = _ := (hd _ (.head _) (by kernel_rfl) : (IsV (.bool false)) v77 wx)
      subst e77
      clear hd
      intro KK hK
      go_simp
      exact hK.out _ _ rfl (Below.refl _ _)
    simp only [Act.put, List.setIfInBounds_toArray, List.set_cons_zero, List.set_cons_succ]
    refine Tab.cons IsV.lasting (fun wx hx hd => ?_) (fun v79 => ?_)
    · skip
      have e78 : v78 = _ := (hd _ (.head _) (by kernel_rfl) : (IsV (.bool false)) v78 wx)
      subst e78
      clear hd
      intro KK hK
      go_simp
      exact hK.out _ _ rfl (Below.refl _ _)
    simp only [Act.put, List.setIfInBounds_toArray, List.set_cons_zero, List.set_cons_succ]
    refine Tab.cons IsV.lasting (fun wx hx hd => ?_) (fun v80 => ?_)
    · skip
      have e78 : v78 = _ := (hd _ (.tail _ (.head _)) (by kernel_rfl) : (IsV (.bool false)) v78 wx)
      subst e78
      clear hd
      intro KK hK
      go_simp
      exact hK.out _ _ rfl (Below.refl _ _)
    simp only [Act.put, List.setIfInBounds_toArray, List.set_cons_zero, List.set_cons_succ]
    refine Tab.cons IsV.lasting (fun wx hx hd => ?_) (fun v81 => ?_)
    · skip
      have e78 : v78 = _ := (hd _ (.tail _ (.tail _ (.head _))) (by kernel_rfl) : (IsV (.bool false)) v78 wx)
      subst e78
      clear hd
      intro KK hK
      have hcell := (Q1.out.later hx).cells
      go_simp
      exact hK.out _ _ rfl (Below.refl _ _)
    simp only [Act.put, List.setIfInBounds_toArray, List.set_cons_zero, List.set_cons_succ]
    refine Tab.cons IsV.lasting (fun wx hx hd => ?_) (fun v82 => ?_)
    · skip
      have e78 : v78 = _ := (hd _ (.tail _ (.tail _ (.tail _ (.head _)))) (by kernel_rfl) : (IsV (.bool false)) v78 wx)
      subst e78
      clear hd
      intro KK hK
      go_simp
      exact hK.out _ _ rfl (Below.refl _ _)
    simp only [Act.put, List.setIfInBounds_toArray, List.set_cons_zero, List.set_cons_succ]
    refine Tab.cons IsQ.lasting (fun wx hx hd => ?_) (fun v83 => ?_)
    · skip
      have e82 : v82 = _ := (hd _ (.head _) (by kernel_rfl) : (IsV (.agg #[])) v82 wx)
      subst e82
      have e78 : v78 = _ := (hd _ (.tail _ (.tail _ (.tail _ (.tail _ (.head _))))) (by kernel_rfl) : (IsV (.bool false)) v78 wx)
      subst e78
      clear hd
      intro KK hK
      go_simp
      refine (frac_one_eq _ HOO.out).mono ?_
      rintro e w' ⟨A', n', c', B', m', d', rfl, hc', hb'⟩
      exact hK.out _ _ ⟨A', n', c', B', m', d', rfl, hc'⟩ hb'
    simp only [Act.put, List.setIfInBounds_toArray, List.set_cons_zero, List.set_cons_succ]
    refine Tab.cons IsQ.lasting (fun wx hx hd => ?_) (fun v84 => ?_)
    · skip
      have e80 : v80 = _ := (hd _ (.tail _ (.tail _ (.tail _ (.head _)))) (by kernel_rfl) : (IsV (.agg #[])) v80 wx)
      subst e80
      have e81 : v81 = _ := (hd _ (.tail _ (.tail _ (.head _))) (by kernel_rfl) : (IsV (.agg #[.bool s1, .slice A1 n1 c1, .slice B1 m1 d1])) v81 wx)
      subst e81
      obtain ⟨A83, n83, c83, B83, m83, d83, rfl, h83⟩ := (hd _ (.head _) (by kernel_rfl) : (IsQ (oo) 1) v83 wx)
      have e78 : v78 = _ := (hd _ (.tail _ (.tail _ (.tail _ (.tail _ (.tail _ (.head _)))))) (by kernel_rfl) : (IsV (.bool false)) v78 wx)
      subst e78
      clear hd
      intro KK hK
      go_simp
      refine (frac_mul (r1.below hx.out) h83.raw 114 (by omega) (by omega) (by omega) (by omega)).mono ?_
      rintro e w' ⟨A', n', c', B', m', d', rfl, hc', hb'⟩
      exact hK.out _ _ ⟨A', n', c', B', m', d', rfl, hc'⟩ hb'
    simp only [Act.put, List.setIfInBounds_toArray, List.set_cons_zero, List.set_cons_succ]
    refine Tab.cons IsV.lasting (fun wx hx hd => ?_) (fun v85 => ?_)
    · skip
      have e78 : v78 = _ := (hd _ (.tail _ (.tail _ (.tail _ (.tail _ (.tail _ (.tail _ (.head _))))))) (by kernel_rfl) : (IsV (.bool false)) v78 wx)
      subst e78
      clear hd
      intro KK hK
      have hcell := (Q1.out.later hx).cells
      go_simp
      exact hK.out _ _ rfl (Below.refl _ _)
    simp only [Act.put, List.setIfInBounds_toArray, List.set_cons_zero, List.set_cons_succ]
    refine Tab.cons IsV.lasting (fun wx hx hd => ?_) (fun v86 => ?_)
    · skip
      have e79 : v79 = _ := (hd _ (.tail _ (.tail _ (.tail _ (.tail _ (.tail _ (.tail _ (.head _))))))) (by kernel_rfl) : (IsV (.agg #[])) v79 wx)
      subst e79
      obtain ⟨A84, n84, c84, B84, m84, d84, rfl, h84⟩ := (hd _ (.tail _ (.head _)) (by kernel_rfl) : (IsQ (a * oo) 229) v84 wx)
      have e85 : v85 = _ := (hd _ (.head _) (by kernel_rfl) : (IsV (.agg #[.bool s1, .slice A1 n1 c1, .slice B1 m1 d1])) v85 wx)
      subst e85
      have e78 : v78 = _ := (hd _ (.tail _ (.tail _ (.tail _ (.tail _ (.tail _ (.tail _ (.tail _ (.head _)))))))) (by kernel_rfl) : (IsV (.bool false)) v78 wx)
      subst e78
      clear hd
      intro KK hK
      go_simp
      refine (frac_same_yes h84.raw (r1.below hx.out) (by omega) (by omega) (by omega) (by omega) HAO.out).mono ?_
      rintro e w' ⟨rfl, hb'⟩
      exact hK.out _ _ rfl hb'
    simp only [Act.put, List.setIfInBounds_toArray, List.set_cons_zero, List.set_cons_succ]
    refine Tab.cons IsV.lasting (fun wx hx hd => ?_) (fun v87 => ?_)
    · skip
      have e86 : v86 = _ := (hd _ (.head _) (by kernel_rfl) : (IsV (.bool true)) v86 wx)
      subst e86
      have e78 : v78 = _ := (hd _ (.tail _ (.tail _ (.tail _ (.tail _ (.tail _ (.tail _ (.tail _ (.tail _ (.head _))))))))) (by kernel_rfl) : (IsV (.bool false)) v78 wx)
      subst e78
      clear hd
      intro KK hK
      go_simp
      exact hK.out _ _ rfl (Below.refl _ _)
    simp only [Act.put, List.setIfInBounds_toArray, List.set_cons_zero, List.set_cons_succ]
    refine Tab.cons IsV.lasting (fun wx hx hd => ?_) (fun v88 => ?_)
    · skip
      have e78 : v78 = _ := (hd _ (.tail _ (.tail _ (.tail _ (.tail _ (.tail _ (.tail _ (.tail _ (.tail _ (.tail _ (.head _)))))))))) (by kernel_rfl) : (IsV (.bool false)) v78 wx)
      subst e78
      have e87 : v87 = _ := (hd _ (.head _) (by kernel_rfl) : (IsV (.bool false)) v87 wx)
      subst e87
      clear hd
      intro KK hK
      go_simp
      exact hK.out _ _ rfl (Below.refl _ _)
    simp only [Act.put, List.setIfInBounds_toArray, List.set_cons_zero, List.set_cons_succ]
    refine Tab.nil fun wx hx hd => ?_
    have e88 : v88 = _ := (hd _ (.head _) : (IsV (.bool false)) v88 wx)
    subst e88
    clear hd
    clear hF
    have hF := hx
    clear hx
    go_wp2_with fail
    refine wp_region_tab 19 107 [IsV (.agg #[]), IsV (.agg #[.bool s1, .slice A1 n1 c1, .slice B1 m1 d1]), IsV (.agg #[]), IsV (.agg #[.bool s2, .slice A2 n2 c2, .slice B2 m2 d2]), IsV (.agg #[.bool s3, .slice A3 n3 c3, .slice B3 m3 d3]), IsQ (b + c) 231, IsQ (a * (b + c)) 463, IsV (.agg #[]), IsV (.agg #[]), IsV (.agg #[.bool s1, .slice A1 n1 c1, .slice B1 m1 d1]), IsV (.agg #[.bool s2, .slice A2 n2 c2, .slice B2 m2 d2]), IsQ (a * b) 229, IsV (.agg #[]), IsV (.agg #[.bool s1, .slice A1 n1 c1, .slice B1 m1 d1]), IsV (.agg #[.bool s3, .slice A3 n3 c3, .slice B3 m3 d3]), IsQ (a * c) 229, IsQ ((a * b) + (a * c)) 461, IsV (.bool true), IsV (.bool true)] (From W) (by kernel_rfl) (by kernel_rfl) (by kernel_rfl) rfl From.lasting (From.drew hF) ?_
    simp only [List.take_succ_cons, List.drop_succ_cons, List.take_nil, List.drop_nil]
    refine Tab.cons IsV.lasting (fun wx hx hd => ?_) (fun v89 => ?_)
    · skip
      clear hd
      intro KK hK
      go_simp
      exact hK.out _ _ rfl (Below.refl _ _)
    simp only [Act.put, List.setIfInBounds_toArray, List.set_cons_zero, List.set_cons_succ]
    refine Tab.cons IsV.lasting (fun wx hx hd => ?_) (fun v90 => ?_)
    · skip
      clear hd
      intro KK hK
      have hcell := (Q1.out.later hx).cells
      go_simp
      exact hK.out _ _ rfl (Below.refl _ _)
    simp only [Act.put, List.setIfInBounds_toArray, List.set_cons_zero, List.set_cons_succ]
    refine Tab.cons IsV.lasting (fun wx hx hd => ?_) (fun v91 => ?_)
    · skip
      clear hd
      intro KK hK
      go_simp
      exact hK.out _ _ rfl (Below.refl _ _)
    simp only [Act.put, List.setIfInBounds_toArray, List.set_cons_zero, List.set_cons_succ]
    refine Tab.cons IsV.lasting (fun wx hx hd => ?_) (fun v92 => ?_)
    · skip
      clear hd
      intro KK hK
      have hcell := (Q2.out.later hx).cells
      go_simp
      exact hK.out _ _ rfl (Below.refl _ _)
    simp only [Act.put, List.setIfInBounds_toArray, List.set_cons_zero, List.set_cons_succ]
    refine Tab.cons IsV.lasting (fun wx hx hd => ?_) (fun v93 => ?_)
    · skip
      clear hd
      intro KK hK
      have hcell := (Q3.out.later hx).cells
      go_simp
      exact hK.out _ _ rfl (Below.refl _ _)
    simp only [Act.put, List.setIfInBounds_toArray, List.set_cons_zero, List.set_cons_succ]
    refine Tab.cons IsQ.lasting (fun wx hx hd => ?_) (fun v94 => ?_)
    · skip
      have e91 : v91 = _ := (hd _ (.tail _ (.tail _ (.head _))) (by kernel_rfl) : (IsV (.agg #[])) v91 wx)
      subst e91
      have e92 : v92 = _ := (hd _ (.tail _ (.head _)) (by kernel_rfl) : (IsV (.agg #[.bool s2, .slice A2 n2 c2, .slice B2 m2 d2])) v92 wx)
      subst e92
      have e93 : v93 = _ := (hd _ (.head _) (by kernel_rfl) : (IsV (.agg #[.bool s3, .slice A3 n3 c3, .slice B3 m3 d3])) v93 wx)
      subst e93
      clear hd
      intro KK hK
      go_simp
      refine (frac_add (r2.below hx.out) (r3.below hx.out) 114 (by omega) (by omega) (by omega) (by omega)).mono ?_
      rintro e w' ⟨A', n', c', B', m', d', rfl, hc', hb'⟩
      exact hK.out _ _ ⟨A', n', c', B', m', d', rfl, hc'⟩ hb'
    simp only [Act.put, List.setIfInBounds_toArray, List.set_cons_zero, List.set_cons_succ]
    refine Tab.cons IsQ.lasting (fun wx hx hd => ?_) (fun v95 => ?_)
    · skip
      have e89 : v89 = _ := (hd _ (.tail _ (.tail _ (.tail _ (.tail _ (.tail _ (.head _)))))) (by kernel_rfl) : (IsV (.agg #[])) v89 wx)
      subst e89
      have e90 : v90 = _ := (hd _ (.tail _ (.tail _ (.tail _ (.tail _ (.head _))))) (by kernel_rfl) : (IsV (.agg #[.bool s1, .slice A1 n1 c1, .slice B1 m1 d1])) v90 wx)
      subst e90
      obtain ⟨A94, n94, c94, B94, m94, d94, rfl, h94⟩ := (hd _ (.head _) (by kernel_rfl) : (IsQ (b + c) 231) v94 wx)
      clear hd
      intro KK hK
      go_simp
      refine (frac_mul (r1.below hx.out) h94.raw 231 (by omega) (by omega) (by omega) (by omega)).mono ?_
      rintro e w' ⟨A', n', c', B', m', d', rfl, hc', hb'⟩
      exact hK.out _ _ ⟨A', n', c', B', m', d', rfl, hc'⟩ hb'
    simp only [Act.put, List.setIfInBounds_toArray, List.set_cons_zero, List.set_cons_succ]
    refine Tab.cons IsV.lasting (fun wx hx hd => ?_) (fun v96 => ?_)
    · skip
      clear hd
      intro KK hK
      go_simp
      exact hK.out _ _ rfl (Below.refl _ _)
    simp only [Act.put, List.setIfInBounds_toArray, List.set_cons_zero, List.set_cons_succ]
    refine Tab.cons IsV.lasting (fun wx hx hd => ?_) (fun v97 => ?_)
    · skip
      clear hd
      intro KK hK
      go_simp
      exact hK.out _ _ rfl (Below.refl _ _)
    simp only [Act.put, List.setIfInBounds_toArray, List.set_cons_zero, List.set_cons_succ]
    refine Tab.cons IsV.lasting (fun wx hx hd => ?_) (fun v98 => ?_)
    · skip
      clear hd
      intro KK hK
      have hcell := (Q1.out.later hx).cells
      go_simp
      exact hK.out _ _ rfl (Below.refl _ _)
    simp only [Act.put, List.setIfInBounds_toArray, List.set_cons_zero, List.set_cons_succ]
    refine Tab.cons IsV.lasting (fun wx hx hd => ?_) (fun v99 => ?_)
    · skip
      clear hd
      intro KK hK
      have hcell := (Q2.out.later hx).cells
      go_simp
      exact hK.out _ _ rfl (Below.refl _ _)
    simp only [Act.put, List.setIfInBounds_toArray, List.set_cons_zero, List.set_cons_succ]
    refine Tab.cons IsQ.lasting (fun wx hx hd => ?_) (fun v100 => ?_)
    · skip
      have e97 : v97 = _ := (hd _ (.tail _ (.tail _ (.head _))) (by kernel_rfl) : (IsV (.agg #[])) v97 wx)
      subst e97
      have e98 : v98 = _ := (hd _ (.tail _ (.head _)) (by kernel_rfl) : (IsV (.agg #[.bool s1, .slice A1 n1 c1, .slice B1 m1 d1])) v98 wx)
      subst e98
      have e99 : v99 = _ := (hd _ (.head _) (by kernel_rfl) : (IsV (.agg #[.bool s2, .slice A2 n2 c2, .slice B2 m2 d2])) v99 wx)
      subst e99
      clear hd
      intro KK hK
      go_simp
      refine (frac_mul (r1.below hx.out) (r2.below hx.out) 114 (by omega) (by omega) (by omega) (by omega)).mono ?_
      rintro e w' ⟨A', n', c', B', m', d', rfl, hc', hb'⟩
      exact hK.out _ _ ⟨A', n', c', B', m', d', rfl, hc'⟩ hb'
    simp only [Act.put, List.setIfInBounds_toArray, List.set_cons_zero, List.set_cons_succ]
    refine Tab.cons IsV.lasting (fun wx hx hd => ?_) (fun v101 => ?_)
    · skip
      clear hd
      intro KK hK
      go_simp
      exact hK.out _ _ rfl (Below.refl _ _)
    simp only [Act.put, List.setIfInBounds_toArray, List.set_cons_zero, List.set_cons_succ]
    refine Tab.cons IsV.lasting (fun wx hx hd => ?_) (fun v102 => ?_)
    · skip
      clear hd
      intro KK hK
      have hcell := (Q1.out.later hx).cells
      go_simp
      exact hK.out _ _ rfl (Below.refl _ _)
    simp only [Act.put, List.setIfInBounds_toArray, List.set_cons_zero, List.set_cons_succ]
    refine Tab.cons IsV.lasting (fun wx hx hd => ?_) (fun v103 => ?_)
    · skip
      clear hd
      intro KK hK
      have hcell := (Q3.out.later hx).cells
      go_simp
      exact hK.out _ _ rfl (Below.refl _ _)
    simp only [Act.put, List.setIfInBounds_toArray, List.set_cons_zero, List.set_cons_succ]
    refine Tab.cons IsQ.lasting (fun wx hx hd => ?_) (fun v104 => ?_)
    · skip
      have e101 : v101 = _ := (hd _ (.tail _ (.tail _ (.head _))) (by kernel_rfl) : (IsV (.agg #[])) v101 wx)
      subst e101
      have e102 : v102 = _ := (hd _ (.tail _ (.head _)) (by kernel_rfl) : (IsV (.agg #[.bool s1, .slice A1 n1 c1, .slice B1 m1 d1])) v102 wx)
      subst e102
      have e103 : v103 = _ := (hd _ (.head _) (by kernel_rfl) : (IsV (.agg #[.bool s3, .slice A3 n3 c3, .slice B3 m3 d3])) v103 wx)
      subst e103
      clear hd
      intro KK hK
      go_simp
      refine (frac_mul (r1.below hx.out) (r3.below hx.out) 114 (by omega) (by omega) (by omega) (by omega)).mono ?_
      rintro e w' ⟨A', n', c', B', m', d', rfl, hc', hb'⟩
      exact hK.out _ _ ⟨A', n', c', B', m', d', rfl, hc'⟩ hb'
    simp only [Act.put, List.setIfInBounds_toArray, List.set_cons_zero, List.set_cons_succ]
    refine Tab.cons IsQ.lasting (fun wx hx hd => ?_) (fun v105 => ?_)
    · skip
      have e96 : v96 = _ := (hd _ (.tail _ (.tail _ (.tail _ (.tail _ (.tail _ (.tail _ (.tail _ (.tail _ (.head _))))))))) (by kernel_rfl) : (IsV (.agg #[])) v96 wx)
      subst e96
      obtain ⟨A100, n100, c100, B100, m100, d100, rfl, h100⟩ := (hd _ (.tail _ (.tail _ (.tail _ (.tail _ (.head _))))) (by kernel_rfl) : (IsQ (a * b) 229) v100 wx)
      obtain ⟨A104, n104, c104, B104, m104, d104, rfl, h104⟩ := (hd _ (.head _) (by kernel_rfl) : (IsQ (a * c) 229) v104 wx)
      clear hd
      intro KK hK
      go_simp
      refine (frac_add h100.raw h104.raw 229 (by omega) (by omega) (by omega) (by omega)).mono ?_
      rintro e w' ⟨A', n', c', B', m', d', rfl, hc', hb'⟩
      exact hK.out _ _ ⟨A', n', c', B', m', d', rfl, hc'⟩ hb'
    simp only [Act.put, List.setIfInBounds_toArray, List.set_cons_zero, List.set_cons_succ]
    refine Tab.cons IsV.lasting (fun wx hx hd => ?_) (fun v106 => ?_)
    · skip
      obtain ⟨A95, n95, c95, B95, m95, d95, rfl, h95⟩ := (hd _ (.tail _ (.tail _ (.tail _ (.tail _ (.tail _ (.tail _ (.tail _ (.tail _ (.tail _ (.tail _ (.head _))))))))))) (by kernel_rfl) : (IsQ (a * (b + c)) 463) v95 wx)
      obtain ⟨A105, n105, c105, B105, m105, d105, rfl, h105⟩ := (hd _ (.head _) (by kernel_rfl) : (IsQ ((a * b) + (a * c)) 461) v105 wx)
      clear hd
      intro KK hK
      go_simp
      refine (rsame_q_yes h95 h105 (Rat.mul_add a b c)).mono ?_
      rintro e w' ⟨rfl, hb'⟩
      exact hK.out _ _ rfl hb'
    simp only [Act.put, List.setIfInBounds_toArray, List.set_cons_zero, List.set_cons_succ]
    refine Tab.cons IsV.lasting (fun wx hx hd => ?_) (fun v6 => ?_)
    · skip
      have e106 : v106 = _ := (hd _ (.head _) (by kernel_rfl) : (IsV (.bool true)) v106 wx)
      subst e106
      clear hd
      intro KK hK
      go_simp
      exact hK.out _ _ rfl (Below.refl _ _)
    simp only [Act.put, List.setIfInBounds_toArray, List.set_cons_zero, List.set_cons_succ]
    refine Tab.nil fun wx hx hd => ?_
    have e6 : v6 = _ := (hd _ (.head _) : (IsV (.bool true)) v6 wx)
    subst e6
    clear hd
    go_wp2
    go_ret
    exact ⟨by rfl, below_step hx.out hB⟩
end Go.Proofs.Ytlomanhmpbapeaa
