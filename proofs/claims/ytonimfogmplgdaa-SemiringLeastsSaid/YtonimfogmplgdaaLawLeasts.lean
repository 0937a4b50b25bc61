/- The walk of the law SemiringLeasts. -/
import Derived.Test.YtonimfogmplgdaaLst3
import Derived.Test.YtonimfogmplgdaaLst8
namespace Go.Proofs.Ytonimfogmplgdaa
open Go.RowKit
theorem rdll_one3 {w : World} {A : Option Addr} {n c : Nat} {ll : List (List Nat)} (h : RdL w A n c ll) :
    RdLL (w.alloc (.cells #[.slice A n c] 29)) (some ⟨w.heap.size, 0, none⟩) 1 1 [ll] := by
  refine ⟨rfl, fun _ => ⟨w.heap.size, 0, rfl, by simp, fun j hj => ?_⟩⟩
  obtain rfl : j = 0 := by omega
  exact ⟨A, n, c, by rw [cell_of_row _ _ _ _ _ _ (heap_alloc_new w _)]; rfl, h.below (below_alloc w _)⟩
theorem boxes3W (w : World) (z1 : Int) (A1 : Option Addr) (n1 c1 : Nat) (z2 : Int) (A2 : Option Addr) (n2 c2 : Nat) (z3 : Int) (A3 : Option Addr) (n3 c3 : Nat) :
    ∃ W, W = ((w.alloc (.cells #[.int .i64 z1, .slice A1 n1 c1] 25)).alloc (.cells #[.int .i64 z2, .slice A2 n2 c2] 25)).alloc (.cells #[.int .i64 z3, .slice A3 n3 c3] 25) ∧ Below w.heap.size w W ∧ BoxW W w.heap.size z1 A1 n1 c1 ∧ BoxW W (w.heap.size + 1) z2 A2 n2 c2 ∧ BoxW W (w.heap.size + 1 + 1) z3 A3 n3 c3 := by
  obtain ⟨V, hV, hS, q1, q2⟩ := boxR2 w z1 A1 n1 c1 z2 A2 n2 c2
  have b3 := below_alloc V (.cells #[.int .i64 z3, .slice A3 n3 c3] 25)
  have hz : V.heap.size = w.heap.size + 1 + 1 := by rw [hV]; simp
  have q3 := BoxW.new V z3 A3 n3 c3
  rw [hz] at q3
  exact ⟨_, by rw [hV], below_step b3 hS, q1.below b3, q2.below b3, q3⟩

set_option maxHeartbeats 8000000 in
set_option maxRecDepth 10000 in
theorem law_SemiringLeasts (w : World) (z1 : Int) (A1 : Option Addr) (n1 c1 : Nat) (x1 : List Nat) (g1 : Rd w A1 n1 c1 x1) (s1 : n1 ≤ 35184372088832) (z2 : Int) (A2 : Option Addr) (n2 c2 : Nat) (x2 : List Nat) (g2 : Rd w A2 n2 c2 x2) (s2 : n2 ≤ 35184372088832) (z3 : Int) (A3 : Option Addr) (n3 c3 : Nat) (x3 : List Nat) (g3 : Rd w A3 n3 c3 x3) (s3 : n3 ≤ 35184372088832) :
    Calls Try.prog 3 #[.agg #[.int .i64 z1, .slice A1 n1 c1], .agg #[.int .i64 z2, .slice A2 n2 c2], .agg #[.int .i64 z3, .slice A3 n3 c3]] w (Makes (.bool true) w) := by
  obtain ⟨W0, hW, hS, q1, q2, q3⟩ := boxes3W w z1 A1 n1 c1 z2 A2 n2 c2 z3 A3 n3 c3
  have hz : W0.heap.size = w.heap.size + 1 + 1 + 1 := by rw [hW]; simp
  have e1 := (g1.below hS).below (below_alloc W0 (.cells #[] 27))
  have e2 := (g2.below hS).below (below_alloc W0 (.cells #[] 27))
  have e3 := (g3.below hS).below (below_alloc W0 (.cells #[] 27))
  have hLL := rdll_one3 (rdl_three 23 e1 e2 e3)
  have hlen : ∀ ll ∈ [[x1, x2, x3]], ll.length ≤ 35184372088832 ∧ ∀ l ∈ ll, l.length ≤ 35184372088832 := by
    intro ll hll
    simp only [List.mem_singleton] at hll
    subst hll
    refine ⟨by simp, fun l hl => ?_⟩
    simp only [List.mem_cons, List.not_mem_nil, or_false] at hl
    rcases hl with rfl | rfl | rfl
    · rw [e1.len]; exact s1
    · rw [e2.len]; exact s2
    · rw [e3.len]; exact s3
  have hcall := little_any _ 1 1 _ _ hLL (by omega) hlen
  have hB2 : Below W0.heap.size W0 (((W0.alloc (.cells #[] 27)).alloc (.cells #[.slice A1 n1 c1, .slice A2 n2 c2, .slice A3 n3 c3] 23)).alloc (.cells #[.slice (some ⟨w.heap.size + 1 + 1 + 1 + 1, 0, none⟩) 3 3] 29)) := (((Below.refl _ _).alloc (Nat.le_refl _) _).alloc (by simp) _).alloc (by simp; omega) _
  have z2' : ((W0.alloc (.cells #[] 27)).alloc (.cells #[.slice A1 n1 c1, .slice A2 n2 c2, .slice A3 n3 c3] 23)).heap.size = w.heap.size + 1 + 1 + 1 + 1 + 1 := by simp [hz]
  have z1' : (W0.alloc (.cells #[] 27)).heap.size = w.heap.size + 1 + 1 + 1 + 1 := by simp [hz]
  rw [z2', z1'] at hcall
  have HW := hide hW
  have HCALL := hide hcall
  have HZ := hide hz
  have hc1 := q1.cells
  have k1 := e1.len
  have hc2 := q2.cells
  have k2 := e2.len
  have hc3 := q3.cells
  have k3 := e3.len
  clear hW hcall hLL hlen hz z1' z2' s1 s2 s3 e1 e2 e3
  go_enter Try.func3, Try.ntmps3
  go_wp2_with fail
  rw [← HW.out]
  refine HCALL.out.mono ?_
  rintro e w2 ⟨qq, rfl, hw2, hq⟩
  have hB := below_step hB2 hS
  have Q1 := hide (q1.below hB2)
  have Q2 := hide (q2.below hB2)
  have Q3 := hide (q3.below hB2)
  have y1 := (g1.below hS).below hB2
  have y2 := (g2.below hS).below hB2
  have y3 := (g3.below hS).below hB2
  rw [hw2] at hB Q1 Q2 Q3 y1 y2 y3
  clear HCALL HW hw2 hB2 hS q1 q2 q3 hc1 hc2 hc3 g1 g2 g3 HZ
  clear W0
  obtain ⟨W, hW⟩ : ∃ W : World, W = w2 := ⟨_, rfl⟩
  subst hW
  cases qq with
  | false =>
    clear hq
    go_wp2_with fail
    refine (alive_any _).mono ?_
    rintro e w3 ⟨rfl, hb3⟩
    go_wp2
    go_ret
    exact ⟨rfl, below_step hb3 hB⟩
  | true =>
    have hsum := hq rfl
    simp only [sizeLL, size1, List.map_cons, List.map_nil, List.sum_cons, List.sum_nil, List.length_cons, List.length_nil, k1, k2, k3] at hsum
    clear hq k1 k2 k3
    obtain ⟨a, hq1⟩ : ∃ q, q = lvW z1 (val x1) := ⟨_, rfl⟩
    have r1 : RawW W z1 A1 n1 c1 a 120 := ⟨⟨x1, y1, hq1.symm⟩, by omega⟩
    have C1 := hide r1.can
    obtain ⟨b, hq2⟩ : ∃ q, q = lvW z2 (val x2) := ⟨_, rfl⟩
    have r2 : RawW W z2 A2 n2 c2 b 120 := ⟨⟨x2, y2, hq2.symm⟩, by omega⟩
    have C2 := hide r2.can
    obtain ⟨c, hq3⟩ : ∃ q, q = lvW z3 (val x3) := ⟨_, rfl⟩
    have r3 : RawW W z3 A3 n3 c3 c 120 := ⟨⟨x3, y3, hq3.symm⟩, by omega⟩
    have C3 := hide r3.can
    clear hsum hq1 y1 hq2 y2 hq3 y3
    go_wp2_with fail
    refine (leasts_zero _ 0).mono ?_
    rintro e w3 ⟨A4, n4, c4, rfl, hz, hb3⟩
    go_wp2_with fail
    refine (none_any _ 0).mono ?_
    rintro e w4 ⟨A5, n5, c5, rfl, hz', hb4⟩
    go_wp2_with fail
    refine (rsameLeast _ _ _ (infW, 0) 0 _ _ _ (infW, 0) 0 _ (hz.below hb4) hz').mono ?_
    rw [decide_eq_true rfl]
    rintro e w5 ⟨rfl, hb5⟩
    have hF5 := From.step (From.step (From.step (From.refl W) hb3) hb4) hb5
    clear hz hz' hb3 hb4 hb5
    go_wp2_with fail
    refine (leasts_one _).mono ?_
    rintro e w6 ⟨A6, n6, c6, rfl, hz, hb6⟩
    go_wp2_with fail
    have hba := below_alloc w6 (.cells #[.int .u32 1] 33)
    refine (rsameLeast _ _ _ (0, 1) 1 _ _ _ (0, 1) 1 _ (hz.below hba) ⟨rd_lit1 _ rfl _ rfl (by omega) (by omega), Nat.le_refl _, .inr ⟨by decide, by decide, by decide⟩⟩).mono ?_
    rw [decide_eq_true rfl]
    rintro e w8 ⟨rfl, hb8⟩
    have hF := From.step (From.step (From.step hF5 hb6) hba) hb8
    clear hz hba hb6 hb8 hF5
    obtain ⟨b4, hb4⟩ : ∃ b4, b4 = decide (a = b) := ⟨_, rfl⟩
    have X9 := hide hb4.symm
    clear hb4
    go_wp2_with fail
    refine wp_region_tab 20 136 [IsV (.agg #[]), IsV (.agg #[.int .i64 z1, .slice A1 n1 c1]), IsV (.agg #[.int .i64 z2, .slice A2 n2 c2]), IsLW (addW a b) 241, IsV (.agg #[.int .i64 z1, .slice A1 n1 c1]), IsV (.agg #[.int .i64 z2, .slice A2 n2 c2]), IsLW (addW a b) 241, IsV (.bool true), IsV (.bool false), IsV (.bool false), IsV (.agg #[]), IsV (.agg #[.int .i64 z1, .slice A1 n1 c1]), IsV (.agg #[.int .i64 z2, .slice A2 n2 c2]), IsLW (mulW a b) 240, IsV (.agg #[.int .i64 z1, .slice A1 n1 c1]), IsV (.agg #[.int .i64 z2, .slice A2 n2 c2]), IsLW (mulW a b) 240, IsV (.bool true), IsV (.bool false), IsV (.bool false)] (From W) (by kernel_rfl) (by kernel_rfl) (by kernel_rfl) rfl From.lasting' (From.drew hF) ?_
    simp only [List.take_succ_cons, List.drop_succ_cons, List.take_nil, List.drop_nil]
    refine Tab.cons IsV.lasting (fun wx hx hd => ?_) (fun v33 => ?_)
    · skip
      clear hd
      intro KK hK
      go_simp
      exact hK.out _ _ rfl (Below.refl _ _)
    simp only [Act.put, List.setIfInBounds_toArray, List.set_cons_zero, List.set_cons_succ]
    refine Tab.cons IsV.lasting (fun wx hx hd => ?_) (fun v34 => ?_)
    · skip
      clear hd
      intro KK hK
      have hcell := (Q1.out.later hx).cells
      go_simp
      exact hK.out _ _ rfl (Below.refl _ _)
    simp only [Act.put, List.setIfInBounds_toArray, List.set_cons_zero, List.set_cons_succ]
    refine Tab.cons IsV.lasting (fun wx hx hd => ?_) (fun v35 => ?_)
    · skip
      clear hd
      intro KK hK
      have hcell := (Q2.out.later hx).cells
      go_simp
      exact hK.out _ _ rfl (Below.refl _ _)
    simp only [Act.put, List.setIfInBounds_toArray, List.set_cons_zero, List.set_cons_succ]
    refine Tab.cons IsLW.lasting (fun wx hx hd => ?_) (fun v36 => ?_)
    · skip
      have e33 : v33 = _ := (hd _ (.tail _ (.tail _ (.head _))) (by kernel_rfl) : (IsV (.agg #[])) v33 wx)
      subst e33
      have e34 : v34 = _ := (hd _ (.tail _ (.head _)) (by kernel_rfl) : (IsV (.agg #[.int .i64 z1, .slice A1 n1 c1])) v34 wx)
      subst e34
      have e35 : v35 = _ := (hd _ (.head _) (by kernel_rfl) : (IsV (.agg #[.int .i64 z2, .slice A2 n2 c2])) v35 wx)
      subst e35
      clear hd
      intro KK hK
      go_simp
      refine (leasts_add _ _ _ _ _ 120 _ _ _ _ _ 120 _ (r1.below hx.out) (r2.below hx.out) (by omega) (by omega)).mono ?_
      rintro e w' ⟨A', n', c', rfl, hc', hb'⟩
      exact hK.out _ _ ⟨A', n', c', rfl, hc'⟩ hb'
    simp only [Act.put, List.setIfInBounds_toArray, List.set_cons_zero, List.set_cons_succ]
    refine Tab.cons IsV.lasting (fun wx hx hd => ?_) (fun v37 => ?_)
    · skip
      clear hd
      intro KK hK
      have hcell := (Q1.out.later hx).cells
      go_simp
      exact hK.out _ _ rfl (Below.refl _ _)
    simp only [Act.put, List.setIfInBounds_toArray, List.set_cons_zero, List.set_cons_succ]
    refine Tab.cons IsV.lasting (fun wx hx hd => ?_) (fun v38 => ?_)
    · skip
      clear hd
      intro KK hK
      have hcell := (Q2.out.later hx).cells
      go_simp
      exact hK.out _ _ rfl (Below.refl _ _)
    simp only [Act.put, List.setIfInBounds_toArray, List.set_cons_zero, List.set_cons_succ]
    refine Tab.cons IsLW.lasting (fun wx hx hd => ?_) (fun v39 => ?_)
    · skip
      have e37 : v37 = _ := (hd _ (.tail _ (.head _)) (by kernel_rfl) : (IsV (.agg #[.int .i64 z1, .slice A1 n1 c1])) v37 wx)
      subst e37
      have e38 : v38 = _ := (hd _ (.head _) (by kernel_rfl) : (IsV (.agg #[.int .i64 z2, .slice A2 n2 c2])) v38 wx)
      subst e38
      clear hd
      intro KK hK
      go_simp
      refine (rleastAdd _ _ _ _ _ 120 _ _ _ _ _ 120 _ (r1.below hx.out) (r2.below hx.out) (by omega) (by omega)).mono ?_
      rintro e w' ⟨A', n', c', rfl, hc', hb'⟩
      exact hK.out _ _ ⟨A', n', c', rfl, hc'⟩ hb'
    simp only [Act.put, List.setIfInBounds_toArray, List.set_cons_zero, List.set_cons_succ]
    refine Tab.cons IsV.lasting (fun wx hx hd => ?_) (fun v40 => ?_)
    · skip
      obtain ⟨A36, n36, c36, rfl, h36⟩ := (hd _ (.tail _ (.tail _ (.tail _ (.head _)))) (by kernel_rfl) : (IsLW (addW a b) 241) v36 wx)
      obtain ⟨A39, n39, c39, rfl, h39⟩ := (hd _ (.head _) (by kernel_rfl) : (IsLW (addW a b) 241) v39 wx)
      clear hd
      intro KK hK
      go_simp
      refine (rsameLeast _ _ _ _ 241 _ _ _ _ 241 _ h36 h39).mono ?_
      rw [decide_eq_true (rfl)]
      rintro e w' ⟨rfl, hb'⟩
      exact hK.out _ _ rfl hb'
    simp only [Act.put, List.setIfInBounds_toArray, List.set_cons_zero, List.set_cons_succ]
    refine Tab.cons IsV.lasting (fun wx hx hd => ?_) (fun v41 => ?_)
    · skip
      have e40 : v40 = _ := (hd _ (.head _) (by kernel_rfl) : (IsV (.bool true)) v40 wx)
      subst e40
      clear hd
      intro KK hK
      go_simp
      exact hK.out _ _ rfl (Below.refl _ _)
    simp only [Act.put, List.setIfInBounds_toArray, List.set_cons_zero, List.set_cons_succ]
    refine Tab.cons IsV.lasting (fun wx hx hd => ?_) (fun v42 => ?_)
    · skip
      have e41 : v41 = _ := (hd _ (.head _) (by kernel_rfl) : (IsV (.bool false)) v41 wx)
      subst e41
      clear hd
      intro KK hK
      go_simp
      exact hK.out _ _ rfl (Below.refl _ _)
    simp only [Act.put, List.setIfInBounds_toArray, List.set_cons_zero, List.set_cons_succ]
    refine Tab.cons IsV.lasting (fun wx hx hd => ?_) (fun v43 => ?_)
    · skip
      have e42 : v42 = _ := (hd _ (.head _) (by kernel_rfl) : (IsV (.bool false)) v42 wx)
      subst e42
      clear hd
      intro KK hK
      go_simp
      exact hK.out _ _ rfl (Below.refl _ _)
    simp only [Act.put, List.setIfInBounds_toArray, List.set_cons_zero, List.set_cons_succ]
    refine Tab.cons IsV.lasting (fun wx hx hd => ?_) (fun v44 => ?_)
    · skip
      have e42 : v42 = _ := (hd _ (.tail _ (.head _)) (by kernel_rfl) : (IsV (.bool false)) v42 wx)
      subst e42
      clear hd
      intro KK hK
      have hcell := (Q1.out.later hx).cells
      go_simp
      exact hK.out _ _ rfl (Below.refl _ _)
    simp only [Act.put, List.setIfInBounds_toArray, List.set_cons_zero, List.set_cons_succ]
    refine Tab.cons IsV.lasting (fun wx hx hd => ?_) (fun v45 => ?_)
    · skip
      have e42 : v42 = _ := (hd _ (.tail _ (.tail _ (.head _))) (by kernel_rfl) : (IsV (.bool false)) v42 wx)
      subst e42
      clear hd
      intro KK hK
      have hcell := (Q2.out.later hx).cells
      go_simp
      exact hK.out _ _ rfl (Below.refl _ _)
    simp only [Act.put, List.setIfInBounds_toArray, List.set_cons_zero, List.set_cons_succ]
    refine Tab.cons IsLW.lasting (fun wx hx hd => ?_) (fun v46 => ?_)
    · skip
      have e43 : v43 = _ := (hd _ (.tail _ (.tail _ (.head _))) (by kernel_rfl) : (IsV (.agg #[])) v43 wx)
      subst e43
      have e44 : v44 = _ := (hd _ (.tail _ (.head _)) (by kernel_rfl) : (IsV (.agg #[.int .i64 z1, .slice A1 n1 c1])) v44 wx)
      subst e44
      have e45 : v45 = _ := (hd _ (.head _) (by kernel_rfl) : (IsV (.agg #[.int .i64 z2, .slice A2 n2 c2])) v45 wx)
      subst e45
      have e42 : v42 = _ := (hd _ (.tail _ (.tail _ (.tail _ (.head _)))) (by kernel_rfl) : (IsV (.bool false)) v42 wx)
      subst e42
      clear hd
      intro KK hK
      go_simp
      refine (leasts_mul _ _ _ _ _ 120 _ _ _ _ _ 120 _ (r1.below hx.out) (r2.below hx.out) (by omega) (by omega)).mono ?_
      rintro e w' ⟨A', n', c', rfl, hc', hb'⟩
      exact hK.out _ _ ⟨A', n', c', rfl, hc'⟩ hb'
    simp only [Act.put, List.setIfInBounds_toArray, List.set_cons_zero, List.set_cons_succ]
    refine Tab.cons IsV.lasting (fun wx hx hd => ?_) (fun v47 => ?_)
    · skip
      have e42 : v42 = _ := (hd _ (.tail _ (.tail _ (.tail _ (.tail _ (.head _))))) (by kernel_rfl) : (IsV (.bool false)) v42 wx)
      subst e42
      clear hd
      intro KK hK
      have hcell := (Q1.out.later hx).cells
      go_simp
      exact hK.out _ _ rfl (Below.refl _ _)
    simp only [Act.put, List.setIfInBounds_toArray, List.set_cons_zero, List.set_cons_succ]
    refine Tab.cons IsV.lasting (fun wx hx hd => ?_) (fun v48 => ?_)
    · skip
      have e42 : v42 = _ := (hd _ (.tail _ (.tail _ (.tail _ (.tail _ (.tail _ (.head _)))))) (by kernel_rfl) : (IsV (.bool false)) v42 wx)
      subst e42
      clear hd
      intro KK hK
      have hcell := (Q2.out.later hx).cells
      go_simp
      exact hK.out _ _ rfl (Below.refl _ _)
    simp only [Act.put, List.setIfInBounds_toArray, List.set_cons_zero, List.set_cons_succ]
    refine Tab.cons IsLW.lasting (fun wx hx hd => ?_) (fun v49 => ?_)
    · skip
      have e47 : v47 = _ := (hd _ (.tail _ (.head _)) (by kernel_rfl) : (IsV (.agg #[.int .i64 z1, .slice A1 n1 c1])) v47 wx)
      subst e47
      have e48 : v48 = _ := (hd _ (.head _) (by kernel_rfl) : (IsV (.agg #[.int .i64 z2, .slice A2 n2 c2])) v48 wx)
      subst e48
      have e42 : v42 = _ := (hd _ (.tail _ (.tail _ (.tail _ (.tail _ (.tail _ (.tail _ (.head _))))))) (by kernel_rfl) : (IsV (.bool false)) v42 wx)
      subst e42
      clear hd
      intro KK hK
      go_simp
      refine (rleastMul _ _ _ _ _ 120 _ _ _ _ _ 120 _ (r1.below hx.out) (r2.below hx.out) (by omega) (by omega)).mono ?_
      rintro e w' ⟨A', n', c', rfl, hc', hb'⟩
      exact hK.out _ _ ⟨A', n', c', rfl, hc'⟩ hb'
    simp only [Act.put, List.setIfInBounds_toArray, List.set_cons_zero, List.set_cons_succ]
    refine Tab.cons IsV.lasting (fun wx hx hd => ?_) (fun v50 => ?_)
    · skip
      obtain ⟨A46, n46, c46, rfl, h46⟩ := (hd _ (.tail _ (.tail _ (.tail _ (.head _)))) (by kernel_rfl) : (IsLW (mulW a b) 240) v46 wx)
      obtain ⟨A49, n49, c49, rfl, h49⟩ := (hd _ (.head _) (by kernel_rfl) : (IsLW (mulW a b) 240) v49 wx)
      have e42 : v42 = _ := (hd _ (.tail _ (.tail _ (.tail _ (.tail _ (.tail _ (.tail _ (.tail _ (.head _)))))))) (by kernel_rfl) : (IsV (.bool false)) v42 wx)
      subst e42
      clear hd
      intro KK hK
      go_simp
      refine (rsameLeast _ _ _ _ 240 _ _ _ _ 240 _ h46 h49).mono ?_
      rw [decide_eq_true (rfl)]
      rintro e w' ⟨rfl, hb'⟩
      exact hK.out _ _ rfl hb'
    simp only [Act.put, List.setIfInBounds_toArray, List.set_cons_zero, List.set_cons_succ]
    refine Tab.cons IsV.lasting (fun wx hx hd => ?_) (fun v51 => ?_)
    · skip
      have e50 : v50 = _ := (hd _ (.head _) (by kernel_rfl) : (IsV (.bool true)) v50 wx)
      subst e50
      have e42 : v42 = _ := (hd _ (.tail _ (.tail _ (.tail _ (.tail _ (.tail _ (.tail _ (.tail _ (.tail _ (.head _))))))))) (by kernel_rfl) : (IsV (.bool false)) v42 wx)
      subst e42
      clear hd
      intro KK hK
      go_simp
      exact hK.out _ _ rfl (Below.refl _ _)
    simp only [Act.put, List.setIfInBounds_toArray, List.set_cons_zero, List.set_cons_succ]
    refine Tab.cons IsV.lasting (fun wx hx hd => ?_) (fun v52 => ?_)
    · skip
      have e42 : v42 = _ := (hd _ (.tail _ (.tail _ (.tail _ (.tail _ (.tail _ (.tail _ (.tail _ (.tail _ (.tail _ (.head _)))))))))) (by kernel_rfl) : (IsV (.bool false)) v42 wx)
      subst e42
      have e51 : v51 = _ := (hd _ (.head _) (by kernel_rfl) : (IsV (.bool false)) v51 wx)
      subst e51
      clear hd
      intro KK hK
      go_simp
      exact hK.out _ _ rfl (Below.refl _ _)
    simp only [Act.put, List.setIfInBounds_toArray, List.set_cons_zero, List.set_cons_succ]
    refine Tab.nil fun wx hx hd => ?_
    have e52 : v52 = _ := (hd _ (.head _) : (IsV (.bool false)) v52 wx)
    subst e52
    clear hd
    clear hF
    have hF := hx
    clear hx
    go_wp2_with fail
    refine wp_region_tab 32 136 [IsV (.agg #[]), IsV (.agg #[.int .i64 z1, .slice A1 n1 c1]), IsV (.agg #[.int .i64 z2, .slice A2 n2 c2]), IsV (.bool b4), IsV (.agg #[.int .i64 z1, .slice A1 n1 c1]), IsLW (a) 120, IsV (.agg #[.int .i64 z2, .slice A2 n2 c2]), IsLW (b) 120, IsV (.bool b4), IsV (.bool false), IsV (.bool false), IsV (.agg #[]), IsV (.agg #[]), IsV (.agg #[.int .i64 z1, .slice A1 n1 c1]), IsV (.agg #[]), IsLW ((infW, 0)) 0, IsLW (addW a (infW, 0)) 121, IsV (.agg #[.int .i64 z1, .slice A1 n1 c1]), IsV (.bool true), IsV (.bool false), IsV (.bool false), IsV (.bool false), IsV (.agg #[]), IsV (.agg #[]), IsV (.agg #[.int .i64 z1, .slice A1 n1 c1]), IsV (.agg #[]), IsLW ((0, 1)) 1, IsLW (mulW a (0, 1)) 121, IsV (.agg #[.int .i64 z1, .slice A1 n1 c1]), IsV (.bool true), IsV (.bool false), IsV (.bool false)] (From W) (by kernel_rfl) (by kernel_rfl) (by kernel_rfl) rfl From.lasting' (From.drew hF) ?_
    simp only [List.take_succ_cons, List.drop_succ_cons, List.take_nil, List.drop_nil]
    refine Tab.cons IsV.lasting (fun wx hx hd => ?_) (fun v53 => ?_)
    · skip
      clear hd
      intro KK hK
      go_simp
      exact hK.out _ _ rfl (Below.refl _ _)
    simp only [Act.put, List.setIfInBounds_toArray, List.set_cons_zero, List.set_cons_succ]
    refine Tab.cons IsV.lasting (fun wx hx hd => ?_) (fun v54 => ?_)
    · skip
      clear hd
      intro KK hK
      have hcell := (Q1.out.later hx).cells
      go_simp
      exact hK.out _ _ rfl (Below.refl _ _)
    simp only [Act.put, List.setIfInBounds_toArray, List.set_cons_zero, List.set_cons_succ]
    refine Tab.cons IsV.lasting (fun wx hx hd => ?_) (fun v55 => ?_)
    · skip
      clear hd
      intro KK hK
      have hcell := (Q2.out.later hx).cells
      go_simp
      exact hK.out _ _ rfl (Below.refl _ _)
    simp only [Act.put, List.setIfInBounds_toArray, List.set_cons_zero, List.set_cons_succ]
    refine Tab.cons IsV.lasting (fun wx hx hd => ?_) (fun v56 => ?_)
    · skip
      have e53 : v53 = _ := (hd _ (.tail _ (.tail _ (.head _))) (by kernel_rfl) : (IsV (.agg #[])) v53 wx)
      subst e53
      have e54 : v54 = _ := (hd _ (.tail _ (.head _)) (by kernel_rfl) : (IsV (.agg #[.int .i64 z1, .slice A1 n1 c1])) v54 wx)
      subst e54
      have e55 : v55 = _ := (hd _ (.head _) (by kernel_rfl) : (IsV (.agg #[.int .i64 z2, .slice A2 n2 c2])) v55 wx)
      subst e55
      clear hd
      intro KK hK
      go_simp
      refine (leasts_same _ _ _ _ _ 120 _ _ _ _ _ 120 _ (r1.below hx.out) (r2.below hx.out) (by omega) (by omega)).mono ?_
      rw [X9.out]
      rintro e w' ⟨rfl, hb'⟩
      exact hK.out _ _ rfl hb'
    simp only [Act.put, List.setIfInBounds_toArray, List.set_cons_zero, List.set_cons_succ]
    refine Tab.cons IsV.lasting (fun wx hx hd => ?_) (fun v57 => ?_)
    · skip
      clear hd
      intro KK hK
      have hcell := (Q1.out.later hx).cells
      go_simp
      exact hK.out _ _ rfl (Below.refl _ _)
    simp only [Act.put, List.setIfInBounds_toArray, List.set_cons_zero, List.set_cons_succ]
    refine Tab.cons IsLW.lasting (fun wx hx hd => ?_) (fun v58 => ?_)
    · skip
      have e57 : v57 = _ := (hd _ (.head _) (by kernel_rfl) : (IsV (.agg #[.int .i64 z1, .slice A1 n1 c1])) v57 wx)
      subst e57
      clear hd
      intro KK hK
      go_simp
      refine (rleast_any _ _ _ _ _ 120 _ (r1.below hx.out) (by omega)).mono ?_
      rintro e w' ⟨A', n', c', rfl, hc', hb'⟩
      exact hK.out _ _ ⟨A', n', c', rfl, hc'⟩ hb'
    simp only [Act.put, List.setIfInBounds_toArray, List.set_cons_zero, List.set_cons_succ]
    refine Tab.cons IsV.lasting (fun wx hx hd => ?_) (fun v59 => ?_)
    · skip
      clear hd
      intro KK hK
      have hcell := (Q2.out.later hx).cells
      go_simp
      exact hK.out _ _ rfl (Below.refl _ _)
    simp only [Act.put, List.setIfInBounds_toArray, List.set_cons_zero, List.set_cons_succ]
    refine Tab.cons IsLW.lasting (fun wx hx hd => ?_) (fun v60 => ?_)
    · skip
      have e59 : v59 = _ := (hd _ (.head _) (by kernel_rfl) : (IsV (.agg #[.int .i64 z2, .slice A2 n2 c2])) v59 wx)
      subst e59
      clear hd
      intro KK hK
      go_simp
      refine (rleast_any _ _ _ _ _ 120 _ (r2.below hx.out) (by omega)).mono ?_
      rintro e w' ⟨A', n', c', rfl, hc', hb'⟩
      exact hK.out _ _ ⟨A', n', c', rfl, hc'⟩ hb'
    simp only [Act.put, List.setIfInBounds_toArray, List.set_cons_zero, List.set_cons_succ]
    refine Tab.cons IsV.lasting (fun wx hx hd => ?_) (fun v61 => ?_)
    · skip
      obtain ⟨A58, n58, c58, rfl, h58⟩ := (hd _ (.tail _ (.tail _ (.head _))) (by kernel_rfl) : (IsLW (a) 120) v58 wx)
      obtain ⟨A60, n60, c60, rfl, h60⟩ := (hd _ (.head _) (by kernel_rfl) : (IsLW (b) 120) v60 wx)
      clear hd
      intro KK hK
      go_simp
      refine (rsameLeast _ _ _ _ 120 _ _ _ _ 120 _ h58 h60).mono ?_
      rw [X9.out]
      rintro e w' ⟨rfl, hb'⟩
      exact hK.out _ _ rfl hb'
    simp only [Act.put, List.setIfInBounds_toArray, List.set_cons_zero, List.set_cons_succ]
    refine Tab.cons IsV.lasting (fun wx hx hd => ?_) (fun v62 => ?_)
    · skip
      have e56 : v56 = _ := (hd _ (.tail _ (.tail _ (.tail _ (.tail _ (.tail _ (.head _)))))) (by kernel_rfl) : (IsV (.bool b4)) v56 wx)
      subst e56
      have e61 : v61 = _ := (hd _ (.head _) (by kernel_rfl) : (IsV (.bool b4)) v61 wx)
      subst e61
      clear hd
      intro KK hK
      cases b4 <;> go_simp <;> (first | exact hK.out _ _ rfl (Below.refl _ _))
    simp only [Act.put, List.setIfInBounds_toArray, List.set_cons_zero, List.set_cons_succ]
    refine Tab.cons IsV.lasting (fun wx hx hd => ?_) (fun v63 => ?_)
    · skip
      have e62 : v62 = _ := (hd _ (.head _) (by kernel_rfl) : (IsV (.bool false)) v62 wx)
      subst e62
      clear hd
      intro KK hK
      go_simp
      exact hK.out _ _ rfl (Below.refl _ _)
    simp only [Act.put, List.setIfInBounds_toArray, List.set_cons_zero, List.set_cons_succ]
    refine Tab.cons IsV.lasting (fun wx hx hd => ?_) (fun v64 => ?_)
    · skip
      have e63 : v63 = _ := (hd _ (.head _) (by kernel_rfl) : (IsV (.bool false)) v63 wx)
      subst e63
      clear hd
      intro KK hK
      go_simp
      exact hK.out _ _ rfl (Below.refl _ _)
    simp only [Act.put, List.setIfInBounds_toArray, List.set_cons_zero, List.set_cons_succ]
    refine Tab.cons IsV.lasting (fun wx hx hd => ?_) (fun v65 => ?_)
    · skip
      have e63 : v63 = _ := (hd _ (.tail _ (.head _)) (by kernel_rfl) : (IsV (.bool false)) v63 wx)
      subst e63
      clear hd
      intro KK hK
      go_simp
      exact hK.out _ _ rfl (Below.refl _ _)
    simp only [Act.put, List.setIfInBounds_toArray, List.set_cons_zero, List.set_cons_succ]
    refine Tab.cons IsV.lasting (fun wx hx hd => ?_) (fun v66 => ?_)
    · skip
      have e63 : v63 = _ := (hd _ (.tail _ (.tail _ (.head _))) (by kernel_rfl) : (IsV (.bool false)) v63 wx)
      subst e63
      clear hd
      intro KK hK
      have hcell := (Q1.out.later hx).cells
      go_simp
      exact hK.out _ _ rfl (Below.refl _ _)
    simp only [Act.put, List.setIfInBounds_toArray, List.set_cons_zero, List.set_cons_succ]
    refine Tab.cons IsV.lasting (fun wx hx hd => ?_) (fun v67 => ?_)
    · skip
      have e63 : v63 = _ := (hd _ (.tail _ (.tail _ (.tail _ (.head _)))) (by kernel_rfl) : (IsV (.bool false)) v63 wx)
      subst e63
      clear hd
      intro KK hK
      go_simp
      exact hK.out _ _ rfl (Below.refl _ _)
    simp only [Act.put, List.setIfInBounds_toArray, List.set_cons_zero, List.set_cons_succ]
    refine Tab.cons IsLW.lasting (fun wx hx hd => ?_) (fun v68 => ?_)
    · skip
      have e67 : v67 = _ := (hd _ (.head _) (by kernel_rfl) : (IsV (.agg #[])) v67 wx)
      subst e67
      have e63 : v63 = _ := (hd _ (.tail _ (.tail _ (.tail _ (.tail _ (.head _))))) (by kernel_rfl) : (IsV (.bool false)) v63 wx)
      subst e63
      clear hd
      intro KK hK
      go_simp
      refine (leasts_zero _ 0).mono ?_
      rintro e w' ⟨A', n', c', rfl, hc', hb'⟩
      exact hK.out _ _ ⟨A', n', c', rfl, hc'⟩ hb'
    simp only [Act.put, List.setIfInBounds_toArray, List.set_cons_zero, List.set_cons_succ]
    refine Tab.cons IsLW.lasting (fun wx hx hd => ?_) (fun v69 => ?_)
    · skip
      have e65 : v65 = _ := (hd _ (.tail _ (.tail _ (.tail _ (.head _)))) (by kernel_rfl) : (IsV (.agg #[])) v65 wx)
      subst e65
      have e66 : v66 = _ := (hd _ (.tail _ (.tail _ (.head _))) (by kernel_rfl) : (IsV (.agg #[.int .i64 z1, .slice A1 n1 c1])) v66 wx)
      subst e66
      obtain ⟨A68, n68, c68, rfl, h68⟩ := (hd _ (.head _) (by kernel_rfl) : (IsLW ((infW, 0)) 0) v68 wx)
      have e63 : v63 = _ := (hd _ (.tail _ (.tail _ (.tail _ (.tail _ (.tail _ (.head _)))))) (by kernel_rfl) : (IsV (.bool false)) v63 wx)
      subst e63
      clear hd
      intro KK hK
      go_simp
      refine (leasts_add _ _ _ _ _ 120 _ _ _ _ _ 0 _ (r1.below hx.out) h68.raw (by omega) (by omega)).mono ?_
      rintro e w' ⟨A', n', c', rfl, hc', hb'⟩
      exact hK.out _ _ ⟨A', n', c', rfl, hc'⟩ hb'
    simp only [Act.put, List.setIfInBounds_toArray, List.set_cons_zero, List.set_cons_succ]
    refine Tab.cons IsV.lasting (fun wx hx hd => ?_) (fun v70 => ?_)
    · skip
      have e63 : v63 = _ := (hd _ (.tail _ (.tail _ (.tail _ (.tail _ (.tail _ (.tail _ (.head _))))))) (by kernel_rfl) : (IsV (.bool false)) v63 wx)
      subst e63
      clear hd
      intro KK hK
      have hcell := (Q1.out.later hx).cells
      go_simp
      exact hK.out _ _ rfl (Below.refl _ _)
    simp only [Act.put, List.setIfInBounds_toArray, List.set_cons_zero, List.set_cons_succ]
    refine Tab.cons IsV.lasting (fun wx hx hd => ?_) (fun v71 => ?_)
    · skip
      have e64 : v64 = _ := (hd _ (.tail _ (.tail _ (.tail _ (.tail _ (.tail _ (.tail _ (.head _))))))) (by kernel_rfl) : (IsV (.agg #[])) v64 wx)
      subst e64
      obtain ⟨A69, n69, c69, rfl, h69⟩ := (hd _ (.tail _ (.head _)) (by kernel_rfl) : (IsLW (addW a (infW, 0)) 121) v69 wx)
      have e70 : v70 = _ := (hd _ (.head _) (by kernel_rfl) : (IsV (.agg #[.int .i64 z1, .slice A1 n1 c1])) v70 wx)
      subst e70
      have e63 : v63 = _ := (hd _ (.tail _ (.tail _ (.tail _ (.tail _ (.tail _ (.tail _ (.tail _ (.head _)))))))) (by kernel_rfl) : (IsV (.bool false)) v63 wx)
      subst e63
      clear hd
      intro KK hK
      go_simp
      refine (leasts_same _ _ _ _ _ 121 _ _ _ _ _ 120 _ h69.raw (r1.below hx.out) (by omega) (by omega)).mono ?_
      rw [decide_eq_true (addW_none C1.out)]
      rintro e w' ⟨rfl, hb'⟩
      exact hK.out _ _ rfl hb'
    simp only [Act.put, List.setIfInBounds_toArray, List.set_cons_zero, List.set_cons_succ]
    refine Tab.cons IsV.lasting (fun wx hx hd => ?_) (fun v72 => ?_)
    · skip
      have e71 : v71 = _ := (hd _ (.head _) (by kernel_rfl) : (IsV (.bool true)) v71 wx)
      subst e71
      have e63 : v63 = _ := (hd _ (.tail _ (.tail _ (.tail _ (.tail _ (.tail _ (.tail _ (.tail _ (.tail _ (.head _))))))))) (by kernel_rfl) : (IsV (.bool false)) v63 wx)
      subst e63
      clear hd
      intro KK hK
      go_simp
      exact hK.out _ _ rfl (Below.refl _ _)
    simp only [Act.put, List.setIfInBounds_toArray, List.set_cons_zero, List.set_cons_succ]
    refine Tab.cons IsV.lasting (fun wx hx hd => ?_) (fun v73 => ?_)
    · skip
      have e63 : v63 = _ := (hd _ (.tail _ (.tail _ (.tail _ (.tail _ (.tail _ (.tail _ (.tail _ (.tail _ (.tail _ (.head _)))))))))) (by kernel_rfl) : (IsV (.bool false)) v63 wx)
      subst e63
      have e72 : v72 = _ := (hd _ (.head _) (by kernel_rfl) : (IsV (.bool false)) v72 wx)
      subst e72
      clear hd
      intro KK hK
      go_simp
      exact hK.out _ _ rfl (Below.refl _ _)
    simp only [Act.put, List.setIfInBounds_toArray, List.set_cons_zero, List.set_cons_succ]
    refine Tab.cons IsV.lasting (fun wx hx hd => ?_) (fun v74 => ?_)
    · skip
      have e73 : v73 = _ := (hd _ (.head _) (by kernel_rfl) : (IsV (.bool false)) v73 wx)
      subst e73
      clear hd
      intro KK hK
      go_simp
      exact hK.out _ _ rfl (Below.refl _ _)
    simp only [Act.put, List.setIfInBounds_toArray, List.set_cons_zero, List.set_cons_succ]
    refine Tab.cons IsV.lasting (fun wx hx hd => ?_) (fun v75 => ?_)
    · skip
      have e74 : v74 = _ := (hd _ (.head _) (by kernel_rfl) : (IsV (.bool false)) v74 wx)
      subst e74
      clear hd
      intro KK hK
      go_simp
      exact hK.out _ _ rfl (Below.refl _ _)
    simp only [Act.put, List.setIfInBounds_toArray, List.set_cons_zero, List.set_cons_succ]
    refine Tab.cons IsV.lasting (fun wx hx hd => ?_) (fun v76 => ?_)
    · skip
      have e74 : v74 = _ := (hd _ (.tail _ (.head _)) (by kernel_rfl) : (IsV (.bool false)) v74 wx)
      subst e74
      clear hd
      intro KK hK
      go_simp
      exact hK.out _ _ rfl (Below.refl _ _)
    simp only [Act.put, List.setIfInBounds_toArray, List.set_cons_zero, List.set_cons_succ]
    refine Tab.cons IsV.lasting (fun wx hx hd => ?_) (fun v77 => ?_)
    · skip
      have e74 : v74 = _ := (hd _ (.tail _ (.tail _ (.head _))) (by kernel_rfl) : (IsV (.bool false)) v74 wx)
      subst e74
      clear hd
      intro KK hK
      have hcell := (Q1.out.later hx).cells
      go_simp
      exact hK.out _ _ rfl (Below.refl _ _)
    simp only [Act.put, List.setIfInBounds_toArray, List.set_cons_zero, List.set_cons_succ]
    refine Tab.cons IsV.lasting (fun wx hx hd => ?_) (fun v78 => ?_)
    · skip
      have e74 : v74 = _ := (hd _ (.tail _ (.tail _ (.tail _ (.head _)))) (by kernel_rfl) : (IsV (.bool false)) v74 wx)
      subst e74
      clear hd
      intro KK hK
      go_simp
      exact hK.out _ _ rfl (Below.refl _ _)
    simp only [Act.put, List.setIfInBounds_toArray, List.set_cons_zero, List.set_cons_succ]
    refine Tab.cons IsLW.lasting (fun wx hx hd => ?_) (fun v79 => ?_)
    · skip
      have e78 : v78 = _ := (hd _ (.head _) (by kernel_rfl) : (IsV (.agg #[])) v78 wx)
      subst e78
      have e74 : v74 = _ := (hd _ (.tail _ (.tail _ (.tail _ (.tail _ (.head _))))) (by kernel_rfl) : (IsV (.bool false)) v74 wx)
      subst e74
      clear hd
      intro KK hK
      go_simp
      refine (leasts_one _).mono ?_
      rintro e w' ⟨A', n', c', rfl, hc', hb'⟩
      exact hK.out _ _ ⟨A', n', c', rfl, hc'⟩ hb'
    simp only [Act.put, List.setIfInBounds_toArray, List.set_cons_zero, List.set_cons_succ]
    refine Tab.cons IsLW.lasting (fun wx hx hd => ?_) (fun v80 => ?_)
    · skip
      have e76 : v76 = _ := (hd _ (.tail _ (.tail _ (.tail _ (.head _)))) (by kernel_rfl) : (IsV (.agg #[])) v76 wx)
      subst e76
      have e77 : v77 = _ := (hd _ (.tail _ (.tail _ (.head _))) (by kernel_rfl) : (IsV (.agg #[.int .i64 z1, .slice A1 n1 c1])) v77 wx)
      subst e77
      obtain ⟨A79, n79, c79, rfl, h79⟩ := (hd _ (.head _) (by kernel_rfl) : (IsLW ((0, 1)) 1) v79 wx)
      have e74 : v74 = _ := (hd _ (.tail _ (.tail _ (.tail _ (.tail _ (.tail _ (.head _)))))) (by kernel_rfl) : (IsV (.bool false)) v74 wx)
      subst e74
      clear hd
      intro KK hK
      go_simp
      refine (leasts_mul _ _ _ _ _ 120 _ _ _ _ _ 1 _ (r1.below hx.out) h79.raw (by omega) (by omega)).mono ?_
      rintro e w' ⟨A', n', c', rfl, hc', hb'⟩
      exact hK.out _ _ ⟨A', n', c', rfl, hc'⟩ hb'
    simp only [Act.put, List.setIfInBounds_toArray, List.set_cons_zero, List.set_cons_succ]
    refine Tab.cons IsV.lasting (fun wx hx hd => ?_) (fun v81 => ?_)
    · skip
      have e74 : v74 = _ := (hd _ (.tail _ (.tail _ (.tail _ (.tail _ (.tail _ (.tail _ (.head _))))))) (by kernel_rfl) : (IsV (.bool false)) v74 wx)
      subst e74
      clear hd
      intro KK hK
      have hcell := (Q1.out.later hx).cells
      go_simp
      exact hK.out _ _ rfl (Below.refl _ _)
    simp only [Act.put, List.setIfInBounds_toArray, List.set_cons_zero, List.set_cons_succ]
    refine Tab.cons IsV.lasting (fun wx hx hd => ?_) (fun v82 => ?_)
    · skip
      have e75 : v75 = _ := (hd _ (.tail _ (.tail _ (.tail _ (.tail _ (.tail _ (.tail _ (.head _))))))) (by kernel_rfl) : (IsV (.agg #[])) v75 wx)
      subst e75
      obtain ⟨A80, n80, c80, rfl, h80⟩ := (hd _ (.tail _ (.head _)) (by kernel_rfl) : (IsLW (mulW a (0, 1)) 121) v80 wx)
      have e81 : v81 = _ := (hd _ (.head _) (by kernel_rfl) : (IsV (.agg #[.int .i64 z1, .slice A1 n1 c1])) v81 wx)
      subst e81
      have e74 : v74 = _ := (hd _ (.tail _ (.tail _ (.tail _ (.tail _ (.tail _ (.tail _ (.tail _ (.head _)))))))) (by kernel_rfl) : (IsV (.bool false)) v74 wx)
      subst e74
      clear hd
      intro KK hK
      go_simp
      refine (leasts_same _ _ _ _ _ 121 _ _ _ _ _ 120 _ h80.raw (r1.below hx.out) (by omega) (by omega)).mono ?_
      rw [decide_eq_true (mulW_one C1.out)]
      rintro e w' ⟨rfl, hb'⟩
      exact hK.out _ _ rfl hb'
    simp only [Act.put, List.setIfInBounds_toArray, List.set_cons_zero, List.set_cons_succ]
    refine Tab.cons IsV.lasting (fun wx hx hd => ?_) (fun v83 => ?_)
    · skip
      have e82 : v82 = _ := (hd _ (.head _) (by kernel_rfl) : (IsV (.bool true)) v82 wx)
      subst e82
      have e74 : v74 = _ := (hd _ (.tail _ (.tail _ (.tail _ (.tail _ (.tail _ (.tail _ (.tail _ (.tail _ (.head _))))))))) (by kernel_rfl) : (IsV (.bool false)) v74 wx)
      subst e74
      clear hd
      intro KK hK
      go_simp
      exact hK.out _ _ rfl (Below.refl _ _)
    simp only [Act.put, List.setIfInBounds_toArray, List.set_cons_zero, List.set_cons_succ]
    refine Tab.cons IsV.lasting (fun wx hx hd => ?_) (fun v84 => ?_)
    · skip
      have e74 : v74 = _ := (hd _ (.tail _ (.tail _ (.tail _ (.tail _ (.tail _ (.tail _ (.tail _ (.tail _ (.tail _ (.head _)))))))))) (by kernel_rfl) : (IsV (.bool false)) v74 wx)
      subst e74
      have e83 : v83 = _ := (hd _ (.head _) (by kernel_rfl) : (IsV (.bool false)) v83 wx)
      subst e83
      clear hd
      intro KK hK
      go_simp
      exact hK.out _ _ rfl (Below.refl _ _)
    simp only [Act.put, List.setIfInBounds_toArray, List.set_cons_zero, List.set_cons_succ]
    refine Tab.nil fun wx hx hd => ?_
    have e84 : v84 = _ := (hd _ (.head _) : (IsV (.bool false)) v84 wx)
    subst e84
    clear hd
    clear hF
    have hF := hx
    clear hx
    go_wp2_with fail
    refine wp_region_tab 19 136 [IsV (.agg #[]), IsV (.agg #[.int .i64 z1, .slice A1 n1 c1]), IsV (.agg #[]), IsV (.agg #[.int .i64 z2, .slice A2 n2 c2]), IsV (.agg #[.int .i64 z3, .slice A3 n3 c3]), IsLW (addW b c) 241, IsLW (mulW a (addW b c)) 361, IsV (.agg #[]), IsV (.agg #[]), IsV (.agg #[.int .i64 z1, .slice A1 n1 c1]), IsV (.agg #[.int .i64 z2, .slice A2 n2 c2]), IsLW (mulW a b) 240, IsV (.agg #[]), IsV (.agg #[.int .i64 z1, .slice A1 n1 c1]), IsV (.agg #[.int .i64 z3, .slice A3 n3 c3]), IsLW (mulW a c) 240, IsLW (addW (mulW a b) (mulW a c)) 481, IsV (.bool true), IsV (.bool false)] (From W) (by kernel_rfl) (by kernel_rfl) (by kernel_rfl) rfl From.lasting' (From.drew hF) ?_
    simp only [List.take_succ_cons, List.drop_succ_cons, List.take_nil, List.drop_nil]
    refine Tab.cons IsV.lasting (fun wx hx hd => ?_) (fun v85 => ?_)
    · skip
      clear hd
      intro KK hK
      go_simp
      exact hK.out _ _ rfl (Below.refl _ _)
    simp only [Act.put, List.setIfInBounds_toArray, List.set_cons_zero, List.set_cons_succ]
    refine Tab.cons IsV.lasting (fun wx hx hd => ?_) (fun v86 => ?_)
    · skip
      clear hd
      intro KK hK
      have hcell := (Q1.out.later hx).cells
      go_simp
      exact hK.out _ _ rfl (Below.refl _ _)
    simp only [Act.put, List.setIfInBounds_toArray, List.set_cons_zero, List.set_cons_succ]
    refine Tab.cons IsV.lasting (fun wx hx hd => ?_) (fun v87 => ?_)
    · skip
      clear hd
      intro KK hK
      go_simp
      exact hK.out _ _ rfl (Below.refl _ _)
    simp only [Act.put, List.setIfInBounds_toArray, List.set_cons_zero, List.set_cons_succ]
    refine Tab.cons IsV.lasting (fun wx hx hd => ?_) (fun v88 => ?_)
    · skip
      clear hd
      intro KK hK
      have hcell := (Q2.out.later hx).cells
      go_simp
      exact hK.out _ _ rfl (Below.refl _ _)
    simp only [Act.put, List.setIfInBounds_toArray, List.set_cons_zero, List.set_cons_succ]
    refine Tab.cons IsV.lasting (fun wx hx hd => ?_) (fun v89 => ?_)
    · skip
      clear hd
      intro KK hK
      have hcell := (Q3.out.later hx).cells
      go_simp
      exact hK.out _ _ rfl (Below.refl _ _)
    simp only [Act.put, List.setIfInBounds_toArray, List.set_cons_zero, List.set_cons_succ]
    refine Tab.cons IsLW.lasting (fun wx hx hd => ?_) (fun v90 => ?_)
    · skip
      have e87 : v87 = _ := (hd _ (.tail _ (.tail _ (.head _))) (by kernel_rfl) : (IsV (.agg #[])) v87 wx)
      subst e87
      have e88 : v88 = _ := (hd _ (.tail _ (.head _)) (by kernel_rfl) : (IsV (.agg #[.int .i64 z2, .slice A2 n2 c2])) v88 wx)
      subst e88
      have e89 : v89 = _ := (hd _ (.head _) (by kernel_rfl) : (IsV (.agg #[.int .i64 z3, .slice A3 n3 c3])) v89 wx)
      subst e89
      clear hd
      intro KK hK
      go_simp
      refine (leasts_add _ _ _ _ _ 120 _ _ _ _ _ 120 _ (r2.below hx.out) (r3.below hx.out) (by omega) (by omega)).mono ?_
      rintro e w' ⟨A', n', c', rfl, hc', hb'⟩
      exact hK.out _ _ ⟨A', n', c', rfl, hc'⟩ hb'
    simp only [Act.put, List.setIfInBounds_toArray, List.set_cons_zero, List.set_cons_succ]
    refine Tab.cons IsLW.lasting (fun wx hx hd => ?_) (fun v91 => ?_)
    · skip
      have e85 : v85 = _ := (hd _ (.tail _ (.tail _ (.tail _ (.tail _ (.tail _ (.head _)))))) (by kernel_rfl) : (IsV (.agg #[])) v85 wx)
      subst e85
      have e86 : v86 = _ := (hd _ (.tail _ (.tail _ (.tail _ (.tail _ (.head _))))) (by kernel_rfl) : (IsV (.agg #[.int .i64 z1, .slice A1 n1 c1])) v86 wx)
      subst e86
      obtain ⟨A90, n90, c90, rfl, h90⟩ := (hd _ (.head _) (by kernel_rfl) : (IsLW (addW b c) 241) v90 wx)
      clear hd
      intro KK hK
      go_simp
      refine (leasts_mul _ _ _ _ _ 120 _ _ _ _ _ 241 _ (r1.below hx.out) h90.raw (by omega) (by omega)).mono ?_
      rintro e w' ⟨A', n', c', rfl, hc', hb'⟩
      exact hK.out _ _ ⟨A', n', c', rfl, hc'⟩ hb'
    simp only [Act.put, List.setIfInBounds_toArray, List.set_cons_zero, List.set_cons_succ]
    refine Tab.cons IsV.lasting (fun wx hx hd => ?_) (fun v92 => ?_)
    · skip
      clear hd
      intro KK hK
      go_simp
      exact hK.out _ _ rfl (Below.refl _ _)
    simp only [Act.put, List.setIfInBounds_toArray, List.set_cons_zero, List.set_cons_succ]
    refine Tab.cons IsV.lasting (fun wx hx hd => ?_) (fun v93 => ?_)
    · skip
      clear hd
      intro KK hK
      go_simp
      exact hK.out _ _ rfl (Below.refl _ _)
    simp only [Act.put, List.setIfInBounds_toArray, List.set_cons_zero, List.set_cons_succ]
    refine Tab.cons IsV.lasting (fun wx hx hd => ?_) (fun v94 => ?_)
    · skip
      clear hd
      intro KK hK
      have hcell := (Q1.out.later hx).cells
      go_simp
      exact hK.out _ _ rfl (Below.refl _ _)
    simp only [Act.put, List.setIfInBounds_toArray, List.set_cons_zero, List.set_cons_succ]
    refine Tab.cons IsV.lasting (fun wx hx hd => ?_) (fun v95 => ?_)
    · skip
      clear hd
      intro KK hK
      have hcell := (Q2.out.later hx).cells
      go_simp
      exact hK.out _ _ rfl (Below.refl _ _)
    simp only [Act.put, List.setIfInBounds_toArray, List.set_cons_zero, List.set_cons_succ]
    refine Tab.cons IsLW.lasting (fun wx hx hd => ?_) (fun v96 => ?_)
    · skip
      have e93 : v93 = _ := (hd _ (.tail _ (.tail _ (.head _))) (by kernel_rfl) : (IsV (.agg #[])) v93 wx)
      subst e93
      have e94 : v94 = _ := (hd _ (.tail _ (.head _)) (by kernel_rfl) : (IsV (.agg #[.int .i64 z1, .slice A1 n1 c1])) v94 wx)
      subst e94
      have e95 : v95 = _ := (hd _ (.head _) (by kernel_rfl) : (IsV (.agg #[.int .i64 z2, .slice A2 n2 c2])) v95 wx)
      subst e95
      clear hd
      intro KK hK
      go_simp
      refine (leasts_mul _ _ _ _ _ 120 _ _ _ _ _ 120 _ (r1.below hx.out) (r2.below hx.out) (by omega) (by omega)).mono ?_
      rintro e w' ⟨A', n', c', rfl, hc', hb'⟩
      exact hK.out _ _ ⟨A', n', c', rfl, hc'⟩ hb'
    simp only [Act.put, List.setIfInBounds_toArray, List.set_cons_zero, List.set_cons_succ]
    refine Tab.cons IsV.lasting (fun wx hx hd => ?_) (fun v97 => ?_)
    · skip
      clear hd
      intro KK hK
      go_simp
      exact hK.out _ _ rfl (Below.refl _ _)
    simp only [Act.put, List.setIfInBounds_toArray, List.set_cons_zero, List.set_cons_succ]
    refine Tab.cons IsV.lasting (fun wx hx hd => ?_) (fun v98 => ?_)
    · skip
      clear hd
      intro KK hK
      have hcell := (Q1.out.later hx).cells
      go_simp
      exact hK.out _ _ rfl (Below.refl _ _)
    simp only [Act.put, List.setIfInBounds_toArray, List.set_cons_zero, List.set_cons_succ]
    refine Tab.cons IsV.lasting (fun wx hx hd => ?_) (fun v99 => ?_)
    · skip
      clear hd
      intro KK hK
      have hcell := (Q3.out.later hx).cells
      go_simp
      exact hK.out _ _ rfl (Below.refl _ _)
    simp only [Act.put, List.setIfInBounds_toArray, List.set_cons_zero, List.set_cons_succ]
    refine Tab.cons IsLW.lasting (fun wx hx hd => ?_) (fun v100 => ?_)
    · skip
      have e97 : v97 = _ := (hd _ (.tail _ (.tail _ (.head _))) (by kernel_rfl) : (IsV (.agg #[])) v97 wx)
      subst e97
      have e98 : v98 = _ := (hd _ (.tail _ (.head _)) (by kernel_rfl) : (IsV (.agg #[.int .i64 z1, .slice A1 n1 c1])) v98 wx)
      subst e98
      have e99 : v99 = _ := (hd _ (.head _) (by kernel_rfl) : (IsV (.agg #[.int .i64 z3, .slice A3 n3 c3])) v99 wx)
      subst e99
      clear hd
      intro KK hK
      go_simp
      refine (leasts_mul _ _ _ _ _ 120 _ _ _ _ _ 120 _ (r1.below hx.out) (r3.below hx.out) (by omega) (by omega)).mono ?_
      rintro e w' ⟨A', n', c', rfl, hc', hb'⟩
      exact hK.out _ _ ⟨A', n', c', rfl, hc'⟩ hb'
    simp only [Act.put, List.setIfInBounds_toArray, List.set_cons_zero, List.set_cons_succ]
    refine Tab.cons IsLW.lasting (fun wx hx hd => ?_) (fun v101 => ?_)
    · skip
      have e92 : v92 = _ := (hd _ (.tail _ (.tail _ (.tail _ (.tail _ (.tail _ (.tail _ (.tail _ (.tail _ (.head _))))))))) (by kernel_rfl) : (IsV (.agg #[])) v92 wx)
      subst e92
      obtain ⟨A96, n96, c96, rfl, h96⟩ := (hd _ (.tail _ (.tail _ (.tail _ (.tail _ (.head _))))) (by kernel_rfl) : (IsLW (mulW a b) 240) v96 wx)
      obtain ⟨A100, n100, c100, rfl, h100⟩ := (hd _ (.head _) (by kernel_rfl) : (IsLW (mulW a c) 240) v100 wx)
      clear hd
      intro KK hK
      go_simp
      refine (leasts_add _ _ _ _ _ 240 _ _ _ _ _ 240 _ h96.raw h100.raw (by omega) (by omega)).mono ?_
      rintro e w' ⟨A', n', c', rfl, hc', hb'⟩
      exact hK.out _ _ ⟨A', n', c', rfl, hc'⟩ hb'
    simp only [Act.put, List.setIfInBounds_toArray, List.set_cons_zero, List.set_cons_succ]
    refine Tab.cons IsV.lasting (fun wx hx hd => ?_) (fun v102 => ?_)
    · skip
      obtain ⟨A91, n91, c91, rfl, h91⟩ := (hd _ (.tail _ (.tail _ (.tail _ (.tail _ (.tail _ (.tail _ (.tail _ (.tail _ (.tail _ (.tail _ (.head _))))))))))) (by kernel_rfl) : (IsLW (mulW a (addW b c)) 361) v91 wx)
      obtain ⟨A101, n101, c101, rfl, h101⟩ := (hd _ (.head _) (by kernel_rfl) : (IsLW (addW (mulW a b) (mulW a c)) 481) v101 wx)
      clear hd
      intro KK hK
      go_simp
      refine (rsameLeast _ _ _ _ 361 _ _ _ _ 481 _ h91 h101).mono ?_
      rw [decide_eq_true (mulW_add C1.out C2.out C3.out)]
      rintro e w' ⟨rfl, hb'⟩
      exact hK.out _ _ rfl hb'
    simp only [Act.put, List.setIfInBounds_toArray, List.set_cons_zero, List.set_cons_succ]
    refine Tab.cons IsV.lasting (fun wx hx hd => ?_) (fun v103 => ?_)
    · skip
      have e102 : v102 = _ := (hd _ (.head _) (by kernel_rfl) : (IsV (.bool true)) v102 wx)
      subst e102
      clear hd
      intro KK hK
      go_simp
      exact hK.out _ _ rfl (Below.refl _ _)
    simp only [Act.put, List.setIfInBounds_toArray, List.set_cons_zero, List.set_cons_succ]
    refine Tab.nil fun wx hx hd => ?_
    have e103 : v103 = _ := (hd _ (.head _) : (IsV (.bool false)) v103 wx)
    subst e103
    clear hd
    clear hF
    have hF := hx
    clear hx
    go_wp2_with fail
    refine wp_region_tab 33 136 [IsV (.agg #[]), IsV (.agg #[.int .i64 z1, .slice A1 n1 c1]), IsV (.agg #[]), IsV (.agg #[.int .i64 z2, .slice A2 n2 c2]), IsV (.agg #[.int .i64 z3, .slice A3 n3 c3]), IsLW (addW b c) 241, IsLW (addW a (addW b c)) 362, IsV (.agg #[]), IsV (.agg #[]), IsV (.agg #[.int .i64 z1, .slice A1 n1 c1]), IsV (.agg #[.int .i64 z2, .slice A2 n2 c2]), IsLW (addW a b) 241, IsV (.agg #[.int .i64 z3, .slice A3 n3 c3]), IsLW (addW (addW a b) c) 362, IsV (.bool true), IsV (.bool true), IsV (.agg #[]), IsV (.agg #[.int .i64 z1, .slice A1 n1 c1]), IsV (.agg #[]), IsV (.agg #[.int .i64 z2, .slice A2 n2 c2]), IsV (.agg #[.int .i64 z3, .slice A3 n3 c3]), IsLW (mulW b c) 240, IsLW (mulW a (mulW b c)) 360, IsV (.agg #[]), IsV (.agg #[]), IsV (.agg #[.int .i64 z1, .slice A1 n1 c1]), IsV (.agg #[.int .i64 z2, .slice A2 n2 c2]), IsLW (mulW a b) 240, IsV (.agg #[.int .i64 z3, .slice A3 n3 c3]), IsLW (mulW (mulW a b) c) 360, IsV (.bool true), IsV (.bool true), IsV (.bool true)] (From W) (by kernel_rfl) (by kernel_rfl) (by kernel_rfl) rfl From.lasting' (From.drew hF) ?_
    simp only [List.take_succ_cons, List.drop_succ_cons, List.take_nil, List.drop_nil]
    refine Tab.cons IsV.lasting (fun wx hx hd => ?_) (fun v104 => ?_)
    · skip
      clear hd
      intro KK hK
      go_simp
      exact hK.out _ _ rfl (Below.refl _ _)
    simp only [Act.put, List.setIfInBounds_toArray, List.set_cons_zero, List.set_cons_succ]
    refine Tab.cons IsV.lasting (fun wx hx hd => ?_) (fun v105 => ?_)
    · skip
      clear hd
      intro KK hK
      have hcell := (Q1.out.later hx).cells
      go_simp
      exact hK.out _ _ rfl (Below.refl _ _)
    simp only [Act.put, List.setIfInBounds_toArray, List.set_cons_zero, List.set_cons_succ]
    refine Tab.cons IsV.lasting (fun wx hx hd => ?_) (fun v106 => ?_)
    · skip
      clear hd
      intro KK hK
      go_simp
      exact hK.out _ _ rfl (Below.refl _ _)
    simp only [Act.put, List.setIfInBounds_toArray, List.set_cons_zero, List.set_cons_succ]
    refine Tab.cons IsV.lasting (fun wx hx hd => ?_) (fun v107 => ?_)
    · skip
      clear hd
      intro KK hK
      have hcell := (Q2.out.later hx).cells
      go_simp
      exact hK.out _ _ rfl (Below.refl _ _)
    simp only [Act.put, List.setIfInBounds_toArray, List.set_cons_zero, List.set_cons_succ]
    refine Tab.cons IsV.lasting (fun wx hx hd => ?_) (fun v108 => ?_)
    · skip
      clear hd
      intro KK hK
      have hcell := (Q3.out.later hx).cells
      go_simp
      exact hK.out _ _ rfl (Below.refl _ _)
    simp only [Act.put, List.setIfInBounds_toArray, List.set_cons_zero, List.set_cons_succ]
    refine Tab.cons IsLW.lasting (fun wx hx hd => ?_) (fun v109 => ?_)
    · skip
      have e106 : v106 = _ := (hd _ (.tail _ (.tail _ (.head _))) (by kernel_rfl) : (IsV (.agg #[])) v106 wx)
      subst e106
      have e107 : v107 = _ := (hd _ (.tail _ (.head _)) (by kernel_rfl) : (IsV (.agg #[.int .i64 z2, .slice A2 n2 c2])) v107 wx)
      subst e107
      have e108 : v108 = _ := (hd _ (.head _) (by kernel_rfl) : (IsV (.agg #[.int .i64 z3, .slice A3 n3 c3])) v108 wx)
      subst e108
      clear hd
      intro KK hK
      go_simp
      refine (leasts_add _ _ _ _ _ 120 _ _ _ _ _ 120 _ (r2.below hx.out) (r3.below hx.out) (by omega) (by omega)).mono ?_
      rintro e w' ⟨A', n', c', rfl, hc', hb'⟩
      exact hK.out _ _ ⟨A', n', c', rfl, hc'⟩ hb'
    simp only [Act.put, List.setIfInBounds_toArray, List.set_cons_zero, List.set_cons_succ]
    refine Tab.cons IsLW.lasting (fun wx hx hd => ?_) (fun v110 => ?_)
    · skip
      have e104 : v104 = _ := (hd _ (.tail _ (.tail _ (.tail _ (.tail _ (.tail _ (.head _)))))) (by kernel_rfl) : (IsV (.agg #[])) v104 wx)
      subst e104
      have e105 : v105 = _ := (hd _ (.tail _ (.tail _ (.tail _ (.tail _ (.head _))))) (by kernel_rfl) : (IsV (.agg #[.int .i64 z1, .slice A1 n1 c1])) v105 wx)
      subst e105
      obtain ⟨A109, n109, c109, rfl, h109⟩ := (hd _ (.head _) (by kernel_rfl) : (IsLW (addW b c) 241) v109 wx)
      clear hd
      intro KK hK
      go_simp
      refine (leasts_add _ _ _ _ _ 120 _ _ _ _ _ 241 _ (r1.below hx.out) h109.raw (by omega) (by omega)).mono ?_
      rintro e w' ⟨A', n', c', rfl, hc', hb'⟩
      exact hK.out _ _ ⟨A', n', c', rfl, hc'⟩ hb'
    simp only [Act.put, List.setIfInBounds_toArray, List.set_cons_zero, List.set_cons_succ]
    refine Tab.cons IsV.lasting (fun wx hx hd => ?_) (fun v111 => ?_)
    · skip
      clear hd
      intro KK hK
      go_simp
      exact hK.out _ _ rfl (Below.refl _ _)
    simp only [Act.put, List.setIfInBounds_toArray, List.set_cons_zero, List.set_cons_succ]
    refine Tab.cons IsV.lasting (fun wx hx hd => ?_) (fun v112 => ?_)
    · skip
      clear hd
      intro KK hK
      go_simp
      exact hK.out _ _ rfl (Below.refl _ _)
    simp only [Act.put, List.setIfInBounds_toArray, List.set_cons_zero, List.set_cons_succ]
    refine Tab.cons IsV.lasting (fun wx hx hd => ?_) (fun v113 => ?_)
    · skip
      clear hd
      intro KK hK
      have hcell := (Q1.out.later hx).cells
      go_simp
      exact hK.out _ _ rfl (Below.refl _ _)
    simp only [Act.put, List.setIfInBounds_toArray, List.set_cons_zero, List.set_cons_succ]
    refine Tab.cons IsV.lasting (fun wx hx hd => ?_) (fun v114 => ?_)
    · skip
      clear hd
      intro KK hK
      have hcell := (Q2.out.later hx).cells
      go_simp
      exact hK.out _ _ rfl (Below.refl _ _)
    simp only [Act.put, List.setIfInBounds_toArray, List.set_cons_zero, List.set_cons_succ]
    refine Tab.cons IsLW.lasting (fun wx hx hd => ?_) (fun v115 => ?_)
    · skip
      have e112 : v112 = _ := (hd _ (.tail _ (.tail _ (.head _))) (by kernel_rfl) : (IsV (.agg #[])) v112 wx)
      subst e112
      have e113 : v113 = _ := (hd _ (.tail _ (.head _)) (by kernel_rfl) : (IsV (.agg #[.int .i64 z1, .slice A1 n1 c1])) v113 wx)
      subst e113
      have e114 : v114 = _ := (hd _ (.head _) (by kernel_rfl) : (IsV (.agg #[.int .i64 z2, .slice A2 n2 c2])) v114 wx)
      subst e114
      clear hd
      intro KK hK
      go_simp
      refine (leasts_add _ _ _ _ _ 120 _ _ _ _ _ 120 _ (r1.below hx.out) (r2.below hx.out) (by omega) (by omega)).mono ?_
      rintro e w' ⟨A', n', c', rfl, hc', hb'⟩
      exact hK.out _ _ ⟨A', n', c', rfl, hc'⟩ hb'
    simp only [Act.put, List.setIfInBounds_toArray, List.set_cons_zero, List.set_cons_succ]
    refine Tab.cons IsV.lasting (fun wx hx hd => ?_) (fun v116 => ?_)
    · skip
      clear hd
      intro KK hK
      have hcell := (Q3.out.later hx).cells
      go_simp
      exact hK.out _ _ rfl (Below.refl _ _)
    simp only [Act.put, List.setIfInBounds_toArray, List.set_cons_zero, List.set_cons_succ]
    refine Tab.cons IsLW.lasting (fun wx hx hd => ?_) (fun v117 => ?_)
    · skip
      have e111 : v111 = _ := (hd _ (.tail _ (.tail _ (.tail _ (.tail _ (.tail _ (.head _)))))) (by kernel_rfl) : (IsV (.agg #[])) v111 wx)
      subst e111
      obtain ⟨A115, n115, c115, rfl, h115⟩ := (hd _ (.tail _ (.head _)) (by kernel_rfl) : (IsLW (addW a b) 241) v115 wx)
      have e116 : v116 = _ := (hd _ (.head _) (by kernel_rfl) : (IsV (.agg #[.int .i64 z3, .slice A3 n3 c3])) v116 wx)
      subst e116
      clear hd
      intro KK hK
      go_simp
      refine (leasts_add _ _ _ _ _ 241 _ _ _ _ _ 120 _ h115.raw (r3.below hx.out) (by omega) (by omega)).mono ?_
      rintro e w' ⟨A', n', c', rfl, hc', hb'⟩
      exact hK.out _ _ ⟨A', n', c', rfl, hc'⟩ hb'
    simp only [Act.put, List.setIfInBounds_toArray, List.set_cons_zero, List.set_cons_succ]
    refine Tab.cons IsV.lasting (fun wx hx hd => ?_) (fun v118 => ?_)
    · skip
      obtain ⟨A110, n110, c110, rfl, h110⟩ := (hd _ (.tail _ (.tail _ (.tail _ (.tail _ (.tail _ (.tail _ (.tail _ (.head _)))))))) (by kernel_rfl) : (IsLW (addW a (addW b c)) 362) v110 wx)
      obtain ⟨A117, n117, c117, rfl, h117⟩ := (hd _ (.head _) (by kernel_rfl) : (IsLW (addW (addW a b) c) 362) v117 wx)
      clear hd
      intro KK hK
      go_simp
      refine (rsameLeast _ _ _ _ 362 _ _ _ _ 362 _ h110 h117).mono ?_
      rw [decide_eq_true (addW_assoc C1.out C2.out C3.out)]
      rintro e w' ⟨rfl, hb'⟩
      exact hK.out _ _ rfl hb'
    simp only [Act.put, List.setIfInBounds_toArray, List.set_cons_zero, List.set_cons_succ]
    refine Tab.cons IsV.lasting (fun wx hx hd => ?_) (fun v119 => ?_)
    · skip
      have e118 : v118 = _ := (hd _ (.head _) (by kernel_rfl) : (IsV (.bool true)) v118 wx)
      subst e118
      clear hd
      intro KK hK
      go_simp
      exact hK.out _ _ rfl (Below.refl _ _)
    simp only [Act.put, List.setIfInBounds_toArray, List.set_cons_zero, List.set_cons_succ]
    refine Tab.cons IsV.lasting (fun wx hx hd => ?_) (fun v120 => ?_)
    · skip
      have e119 : v119 = _ := (hd _ (.head _) (by kernel_rfl) : (IsV (.bool true)) v119 wx)
      subst e119
      clear hd
      intro KK hK
      go_simp
      exact hK.out _ _ rfl (Below.refl _ _)
    simp only [Act.put, List.setIfInBounds_toArray, List.set_cons_zero, List.set_cons_succ]
    refine Tab.cons IsV.lasting (fun wx hx hd => ?_) (fun v121 => ?_)
    · skip
      have e119 : v119 = _ := (hd _ (.tail _ (.head _)) (by kernel_rfl) : (IsV (.bool true)) v119 wx)
      subst e119
      clear hd
      intro KK hK
      have hcell := (Q1.out.later hx).cells
      go_simp
      exact hK.out _ _ rfl (Below.refl _ _)
    simp only [Act.put, List.setIfInBounds_toArray, List.set_cons_zero, List.set_cons_succ]
    refine Tab.cons IsV.lasting (fun wx hx hd => ?_) (fun v122 => ?_)
    · skip
      have e119 : v119 = _ := (hd _ (.tail _ (.tail _ (.head _))) (by kernel_rfl) : (IsV (.bool true)) v119 wx)
      subst e119
      clear hd
      intro KK hK
      go_simp
      exact hK.out _ _ rfl (Below.refl _ _)
    simp only [Act.put, List.setIfInBounds_toArray, List.set_cons_zero, List.set_cons_succ]
    refine Tab.cons IsV.lasting (fun wx hx hd => ?_) (fun v123 => ?_)
    · skip
      have e119 : v119 = _ := (hd _ (.tail _ (.tail _ (.tail _ (.head _)))) (by kernel_rfl) : (IsV (.bool true)) v119 wx)
      subst e119
      clear hd
      intro KK hK
      have hcell := (Q2.out.later hx).cells
      go_simp
      exact hK.out _ _ rfl (Below.refl _ _)
    simp only [Act.put, List.setIfInBounds_toArray, List.set_cons_zero, List.set_cons_succ]
    refine Tab.cons IsV.lasting (fun wx hx hd => ?_) (fun v124 => ?_)
    · skip
      have e119 : v119 = _ := (hd _ (.tail _ (.tail _ (.tail _ (.tail _ (.head _))))) (by kernel_rfl) : (IsV (.bool true)) v119 wx)
      subst e119
      clear hd
      intro KK hK
      have hcell := (Q3.out.later hx).cells
      go_simp
      exact hK.out _ _ rfl (Below.refl _ _)
    simp only [Act.put, List.setIfInBounds_toArray, List.set_cons_zero, List.set_cons_succ]
    refine Tab.cons IsLW.lasting (fun wx hx hd => ?_) (fun v125 => ?_)
    · skip
      have e122 : v122 = _ := (hd _ (.tail _ (.tail _ (.head _))) (by kernel_rfl) : (IsV (.agg #[])) v122 wx)
      subst e122
      have e123 : v123 = _ := (hd _ (.tail _ (.head _)) (by kernel_rfl) : (IsV (.agg #[.int .i64 z2, .slice A2 n2 c2])) v123 wx)
      subst e123
      have e124 : v124 = _ := (hd _ (.head _) (by kernel_rfl) : (IsV (.agg #[.int .i64 z3, .slice A3 n3 c3])) v124 wx)
      subst e124
      have e119 : v119 = _ := (hd _ (.tail _ (.tail _ (.tail _ (.tail _ (.tail _ (.head _)))))) (by kernel_rfl) : (IsV (.bool true)) v119 wx)
      subst e119
      clear hd
      intro KK hK
      go_simp
      refine (leasts_mul _ _ _ _ _ 120 _ _ _ _ _ 120 _ (r2.below hx.out) (r3.below hx.out) (by omega) (by omega)).mono ?_
      rintro e w' ⟨A', n', c', rfl, hc', hb'⟩
      exact hK.out _ _ ⟨A', n', c', rfl, hc'⟩ hb'
    simp only [Act.put, List.setIfInBounds_toArray, List.set_cons_zero, List.set_cons_succ]
    refine Tab.cons IsLW.lasting (fun wx hx hd => ?_) (fun v126 => ?_)
    · skip
      have e120 : v120 = _ := (hd _ (.tail _ (.tail _ (.tail _ (.tail _ (.tail _ (.head _)))))) (by kernel_rfl) : (IsV (.agg #[])) v120 wx)
      subst e120
      have e121 : v121 = _ := (hd _ (.tail _ (.tail _ (.tail _ (.tail _ (.head _))))) (by kernel_rfl) : (IsV (.agg #[.int .i64 z1, .slice A1 n1 c1])) v121 wx)
      subst e121
      obtain ⟨A125, n125, c125, rfl, h125⟩ := (hd _ (.head _) (by kernel_rfl) : (IsLW (mulW b c) 240) v125 wx)
      have e119 : v119 = _ := (hd _ (.tail _ (.tail _ (.tail _ (.tail _ (.tail _ (.tail _ (.head _))))))) (by kernel_rfl) : (IsV (.bool true)) v119 wx)
      subst e119
      clear hd
      intro KK hK
      go_simp
      refine (leasts_mul _ _ _ _ _ 120 _ _ _ _ _ 240 _ (r1.below hx.out) h125.raw (by omega) (by omega)).mono ?_
      rintro e w' ⟨A', n', c', rfl, hc', hb'⟩
      exact hK.out _ _ ⟨A', n', c', rfl, hc'⟩ hb'
    simp only [Act.put, List.setIfInBounds_toArray, List.set_cons_zero, List.set_cons_succ]
    refine Tab.cons IsV.lasting (fun wx hx hd => ?_) (fun v127 => ?_)
    · skip
      have e119 : v119 = _ := (hd _ (.tail _ (.tail _ (.tail _ (.tail _ (.tail _ (.tail _ (.tail _ (.head _)))))))) (by kernel_rfl) : (IsV (.bool true)) v119 wx)
      subst e119
      clear hd
      intro KK hK
      go_simp
      exact hK.out _ _ rfl (Below.refl _ _)
    simp only [Act.put, List.setIfInBounds_toArray, List.set_cons_zero, List.set_cons_succ]
    refine Tab.cons IsV.lasting (fun wx hx hd => ?_) (fun v128 => ?_)
    · skip
      have e119 : v119 = _ := (hd _ (.tail _ (.tail _ (.tail _ (.tail _ (.tail _ (.tail _ (.tail _ (.tail _ (.head _))))))))) (by kernel_rfl) : (IsV (.bool true)) v119 wx)
      subst e119
      clear hd
      intro KK hK
      go_simp
      exact hK.out _ _ rfl (Below.refl _ _)
    simp only [Act.put, List.setIfInBounds_toArray, List.set_cons_zero, List.set_cons_succ]
    refine Tab.cons IsV.lasting (fun wx hx hd => ?_) (fun v129 => ?_)
    · skip
      have e119 : v119 = _ := (hd _ (.tail _ (.tail _ (.tail _ (.tail _ (.tail _ (.tail _ (.tail _ (.tail _ (.tail _ (.head _)))))))))) (by kernel_rfl) : (IsV (.bool true)) v119 wx)
      subst e119
      clear hd
      intro KK hK
      have hcell := (Q1.out.later hx).cells
      go_simp
      exact hK.out _ _ rfl (Below.refl _ _)
    simp only [Act.put, List.setIfInBounds_toArray, List.set_cons_zero, List.set_cons_succ]
    refine Tab.cons IsV.lasting (fun wx hx hd => ?_) (fun v130 => ?_)
    · skip
      have e119 : v119 = _ := (hd _ (.tail _ (.tail _ (.tail _ (.tail _ (.tail _ (.tail _ (.tail _ (.tail _ (.tail _ (.tail _ (.head _))))))))))) (by kernel_rfl) : (IsV (.bool true)) v119 wx)
      subst e119
      clear hd
      intro KK hK
      have hcell := (Q2.out.later hx).cells
      go_simp
      exact hK.out _ _ rfl (Below.refl _ _)
    simp only [Act.put, List.setIfInBounds_toArray, List.set_cons_zero, List.set_cons_succ]
    refine Tab.cons IsLW.lasting (fun wx hx hd => ?_) (fun v131 => ?_)
    · skip
      have e128 : v128 = _ := (hd _ (.tail _ (.tail _ (.head _))) (by kernel_rfl) : (IsV (.agg #[])) v128 wx)
      subst e128
      have e129 : v129 = _ := (hd _ (.tail _ (.head _)) (by kernel_rfl) : (IsV (.agg #[.int .i64 z1, .slice A1 n1 c1])) v129 wx)
      subst e129
      have e130 : v130 = _ := (hd _ (.head _) (by kernel_rfl) : (IsV (.agg #[.int .i64 z2, .slice A2 n2 c2])) v130 wx)
      subst e130
      have e119 : v119 = _ := (hd _ (.tail _ (.tail _ (.tail _ (.tail _ (.tail _ (.tail _ (.tail _ (.tail _ (.tail _ (.tail _ (.tail _ (.head _)))))))))))) (by kernel_rfl) : (IsV (.bool true)) v119 wx)
      subst e119
      clear hd
      intro KK hK
      go_simp
      refine (leasts_mul _ _ _ _ _ 120 _ _ _ _ _ 120 _ (r1.below hx.out) (r2.below hx.out) (by omega) (by omega)).mono ?_
      rintro e w' ⟨A', n', c', rfl, hc', hb'⟩
      exact hK.out _ _ ⟨A', n', c', rfl, hc'⟩ hb'
    simp only [Act.put, List.setIfInBounds_toArray, List.set_cons_zero, List.set_cons_succ]
    refine Tab.cons IsV.lasting (fun wx hx hd => ?_) (fun v132 => ?_)
    · skip
      have e119 : v119 = _ := (hd _ (.tail _ (.tail _ (.tail _ (.tail _ (.tail _ (.tail _ (.tail _ (.tail _ (.tail _ (.tail _ (.tail _ (.tail _ (.head _))))))))))))) (by kernel_rfl) : (IsV (.bool true)) v119 wx)
      subst e119
      clear hd
      intro KK hK
      have hcell := (Q3.out.later hx).cells
      go_simp
      exact hK.out _ _ rfl (Below.refl _ _)
    simp only [Act.put, List.setIfInBounds_toArray, List.set_cons_zero, List.set_cons_succ]
    refine Tab.cons IsLW.lasting (fun wx hx hd => ?_) (fun v133 => ?_)
    · skip
      have e127 : v127 = _ := (hd _ (.tail _ (.tail _ (.tail _ (.tail _ (.tail _ (.head _)))))) (by kernel_rfl) : (IsV (.agg #[])) v127 wx)
      subst e127
      obtain ⟨A131, n131, c131, rfl, h131⟩ := (hd _ (.tail _ (.head _)) (by kernel_rfl) : (IsLW (mulW a b) 240) v131 wx)
      have e132 : v132 = _ := (hd _ (.head _) (by kernel_rfl) : (IsV (.agg #[.int .i64 z3, .slice A3 n3 c3])) v132 wx)
      subst e132
      have e119 : v119 = _ := (hd _ (.tail _ (.tail _ (.tail _ (.tail _ (.tail _ (.tail _ (.tail _ (.tail _ (.tail _ (.tail _ (.tail _ (.tail _ (.tail _ (.head _)))))))))))))) (by kernel_rfl) : (IsV (.bool true)) v119 wx)
      subst e119
      clear hd
      intro KK hK
      go_simp
      refine (leasts_mul _ _ _ _ _ 240 _ _ _ _ _ 120 _ h131.raw (r3.below hx.out) (by omega) (by omega)).mono ?_
      rintro e w' ⟨A', n', c', rfl, hc', hb'⟩
      exact hK.out _ _ ⟨A', n', c', rfl, hc'⟩ hb'
    simp only [Act.put, List.setIfInBounds_toArray, List.set_cons_zero, List.set_cons_succ]
    refine Tab.cons IsV.lasting (fun wx hx hd => ?_) (fun v134 => ?_)
    · skip
      obtain ⟨A126, n126, c126, rfl, h126⟩ := (hd _ (.tail _ (.tail _ (.tail _ (.tail _ (.tail _ (.tail _ (.tail _ (.head _)))))))) (by kernel_rfl) : (IsLW (mulW a (mulW b c)) 360) v126 wx)
      obtain ⟨A133, n133, c133, rfl, h133⟩ := (hd _ (.head _) (by kernel_rfl) : (IsLW (mulW (mulW a b) c) 360) v133 wx)
      have e119 : v119 = _ := (hd _ (.tail _ (.tail _ (.tail _ (.tail _ (.tail _ (.tail _ (.tail _ (.tail _ (.tail _ (.tail _ (.tail _ (.tail _ (.tail _ (.tail _ (.head _))))))))))))))) (by kernel_rfl) : (IsV (.bool true)) v119 wx)
      subst e119
      clear hd
      intro KK hK
      go_simp
      refine (rsameLeast _ _ _ _ 360 _ _ _ _ 360 _ h126 h133).mono ?_
      rw [decide_eq_true (mulW_assoc C1.out C2.out C3.out)]
      rintro e w' ⟨rfl, hb'⟩
      exact hK.out _ _ rfl hb'
    simp only [Act.put, List.setIfInBounds_toArray, List.set_cons_zero, List.set_cons_succ]
    refine Tab.cons IsV.lasting (fun wx hx hd => ?_) (fun v135 => ?_)
    · skip
      have e119 : v119 = _ := (hd _ (.tail _ (.tail _ (.tail _ (.tail _ (.tail _ (.tail _ (.tail _ (.tail _ (.tail _ (.tail _ (.tail _ (.tail _ (.tail _ (.tail _ (.tail _ (.head _)))))))))))))))) (by kernel_rfl) : (IsV (.bool true)) v119 wx)
      subst e119
      have e134 : v134 = _ := (hd _ (.head _) (by kernel_rfl) : (IsV (.bool true)) v134 wx)
      subst e134
      clear hd
      intro KK hK
      go_simp
      exact hK.out _ _ rfl (Below.refl _ _)
    simp only [Act.put, List.setIfInBounds_toArray, List.set_cons_zero, List.set_cons_succ]
    refine Tab.cons IsV.lasting (fun wx hx hd => ?_) (fun v6 => ?_)
    · skip
      have e135 : v135 = _ := (hd _ (.head _) (by kernel_rfl) : (IsV (.bool true)) v135 wx)
      subst e135
      clear hd
      intro KK hK
      go_simp
      exact hK.out _ _ rfl (Below.refl _ _)
    simp only [Act.put, List.setIfInBounds_toArray, List.set_cons_zero, List.set_cons_succ]
    refine Tab.nil fun wx hx hd => ?_
    have e6 : v6 = _ := (hd _ (.head _) : (IsV (.bool true)) v6 wx)
    subst e6
    clear hd
    go_wp2
    go_ret
    exact ⟨by rfl, below_step hx.out hB⟩

end Go.Proofs.Ytonimfogmplgdaa
