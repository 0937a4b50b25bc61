/- The reference's sum (joined), product and comparison of least weights. -/
import Derived.Test.YtonimfogmplgdaaLst6
namespace Go.Proofs.Ytonimfogmplgdaa
open Go.RowKit
theorem RawW.can {w : World} {z : Int} {A : Option Addr} {n c : Nat} {x : LW} {K : Nat} (h : RawW w z A n c x K) : CanW x := by
  obtain ⟨⟨l, _, hx⟩, _⟩ := h
  rw [← hx]
  exact lvW_can _ _

set_option maxHeartbeats 8000000 in
theorem rleastAdd (z : Int) (A : Option Addr) (n c : Nat) (x : LW) (K : Nat) (z2 : Int) (A2 : Option Addr) (n2 c2 : Nat) (y : LW) (L : Nat) (w : World) (h : RawW w z A n c x K) (h' : RawW w z2 A2 n2 c2 y L) (hK : K ≤ 900) (hL : L ≤ 900) :
    Calls Try.prog 13 #[.agg #[.int .i64 z, .slice A n c], .agg #[.int .i64 z2, .slice A2 n2 c2]] w (RetLW (addW x y) (K + L + 1) w) := by
  by_cases h1 : x.1 < y.1
  · exact rleastAdd1 z A n c x K z2 A2 n2 c2 y L w h h' hK hL h1
  · by_cases h2 : y.1 < x.1
    · exact rleastAdd2 z A n c x K z2 A2 n2 c2 y L w h h' hK hL h1 h2
    · by_cases h3 : x.1 = infW
      · have hy := h'.can
        refine rleastAdd3 z A n c x K z2 A2 n2 c2 y L w h h' hK hL h1 h2 h3 ?_
        have hi : infW = 4611686018427387904 := rfl
        unfold CanW at hy
        exact Prod.ext (by simp only; omega) (by simp only; omega)
      · exact rleastAdd4 z A n c x K z2 A2 n2 c2 y L w h h' hK hL h1 h2 h3

set_option maxHeartbeats 8000000 in
theorem rleastMul1 (z : Int) (A : Option Addr) (n c : Nat) (x : LW) (K : Nat) (z2 : Int) (A2 : Option Addr) (n2 c2 : Nat) (y : LW) (L : Nat) (w : World) (h : RawW w z A n c x K) (h' : RawW w z2 A2 n2 c2 y L) (hK : K ≤ 900) (hL : L ≤ 900) (hge : infW ≤ x.1 + y.1) :
    Calls Try.prog 15 #[.agg #[.int .i64 z, .slice A n c], .agg #[.int .i64 z2, .slice A2 n2 c2]] w (RetLW (mulW x y) (K + L) w) := by
  have HA : Hid (mulW x y = (infW, 0)) := if_pos hge
  have HL := hide hge
  clear hge
  obtain ⟨W, hW, hS, q1, q2, q3⟩ := boxR w z A n c z2 A2 n2 c2
  have hr1 := h.below hS
  have hr2 := h'.below hS
  have HW := hide hW
  have Q2 := hide q2
  have Q3 := hide q3
  have Q1 := hide q1
  have hc1 := q1.cells
  clear hW q1 q2 q3 h h'
  go_enter Try.func15, Try.ntmps15
  go_wp2_with fail
  rw [← HW.out]
  refine (rleast_any z A n c x K W hr1 (by omega)).mono ?_
  rintro e w1 ⟨A10, n10, c10, rfl, cx, hb1⟩
  obtain ⟨xa, hxa⟩ : ∃ xa, x.1 = xa := ⟨_, rfl⟩
  obtain ⟨ya, hya⟩ : ∃ ya, y.1 = ya := ⟨_, rfl⟩
  rw [hxa]
  have HX1 := hide hxa
  have HY1 := hide hya
  have p1 := Q1.out.below hb1
  have o1 := onlyW w1 w.heap.size (.int .i64 xa) (.slice A10 n10 c10)
  have r1 := p1.store xa A10 n10 c10
  have r2 := BoxW.grown (Q2.out.below hb1) o1 (by omega)
  have r3 := BoxW.grown (Q3.out.below hb1) o1 (by omega)
  have ex := cx.far o1 p1.noLimb
  have ey := (hr2.below hb1).far o1 p1.noLimb
  have hB1 := belowW (below_step hb1 hS) (Nat.le_refl _) (.int .i64 xa) (.slice A10 n10 c10)
  clear hc1
  have hc1 := p1.cells
  have hf1 := p1.free
  have hc2 := r2.cells
  have HF := hide (And.intro r1 (And.intro r2 (And.intro r3 (And.intro ex (And.intro ey hB1)))))
  clear r1 r2 r3 ex ey hB1 p1 o1 cx hr1 hr2 hb1 hxa Q1 Q2 Q3 hS HW
  go_wp2_with fail
  obtain ⟨r1, r2, r3, ex, ey, hB1⟩ := HF.out
  clear HF hc1 hf1 hc2
  obtain ⟨V, hV⟩ : ∃ V, V = (w1.setCell ⟨w.heap.size, 0, none⟩ (.int .i64 xa)).setCell ⟨w.heap.size, 1, none⟩ (.slice A10 n10 c10) := ⟨_, rfl⟩
  rw [← hV] at r1 r2 r3 ex ey hB1
  rw [← hV]
  clear hV
  refine (rleast_any z2 A2 n2 c2 y L V ey (by omega)).mono ?_
  rintro e w2 ⟨A12, n12, c12, rfl, cy, hb2⟩
  rw [hya]
  clear hya
  have p2 := r2.below hb2
  have o2 := onlyW w2 (w.heap.size + 1) (.int .i64 ya) (.slice A12 n12 c12)
  have t8 := p2.store ya A12 n12 c12
  have t7 := BoxW.grown (r1.below hb2) o2 (by omega)
  have t3 := BoxW.grown (r3.below hb2) o2 (by omega)
  have gx := (ex.below hb2).far o2 p2.noLimb
  have gy := cy.far o2 p2.noLimb
  have hB := belowW (below_step hb2 hB1) (by omega : w.heap.size ≤ w.heap.size + 1) (.int .i64 ya) (.slice A12 n12 c12)
  have hc2 := p2.cells
  have hf2 := p2.free
  have HF := hide (And.intro t7 (And.intro t8 (And.intro t3 (And.intro gx (And.intro gy hB)))))
  clear t7 t8 t3 gx gy hB p2 o2 cy r1 r2 r3 ex ey hb2 hB1
  go_upto_region 3 with (fail)
  obtain ⟨t7, t8, t3, cx, cy, hB⟩ := HF.out
  clear HF hc2 hf2
  obtain ⟨V9, hV⟩ : ∃ V9, V9 = (w2.setCell ⟨w.heap.size + 1, 0, none⟩ (.int .i64 ya)).setCell ⟨w.heap.size + 1, 1, none⟩ (.slice A12 n12 c12) := ⟨_, rfl⟩
  rw [← hV] at t7 t8 t3 cx cy hB
  rw [← hV]
  clear hV
  have T7 := hide t7
  have T8 := hide t8
  have T3 := hide t3
  have hcx7 := t7.cells
  have hcx8 := t8.cells
  have hcg := t3.cells
  have hfg := t3.free
  have hz3 := t3.2
  clear t7 t8 t3
  have hxr : 0 ≤ xa ∧ xa ≤ 4611686018427387904 := by have := HX1.out; have h5 := cx.can; unfold CanW at h5; have hi : infW = 4611686018427387904 := rfl; omega
  have hyr : 0 ≤ ya ∧ ya ≤ 4611686018427387904 := by have := HY1.out; have h5 := cy.can; unfold CanW at h5; have hi : infW = 4611686018427387904 := rfl; omega
  go_wp2_with fail
  refine (rminPlus_mul xa ya _).mono ?_
  rintro e w9 ⟨rfl, hb9⟩
  have t7 := T7.out.below hb9
  have t8 := T8.out.below hb9
  have t3 := T3.out.below hb9
  have ux := cx.below hb9
  have uy := cy.below hb9
  have uB := below_step hb9 hB
  clear hcx7 hcx8 hcg hfg T7 T8 T3 cx cy hB hb9
  have cx := ux
  have cy := uy
  have hB := uB
  clear ux uy uB
  have hcx7 := t7.cells
  have hcx8 := t8.cells
  have hcg := t3.cells
  have hfg := t3.free
  have T7 := hide t7
  have T8 := hide t8
  have T3 := hide t3
  clear t7 t8 t3
  have hm : cMul xa ya = 4611686018427387904 := by have := HX1.out; have := HY1.out; have := HL.out; have hi : infW = 4611686018427387904 := rfl; unfold cMul cCost; omega
  rw [hm]
  go_wp2_with fail
  refine (none_any _ (K + L)).mono ?_
  rintro e w8 ⟨A9, n9, c9, rfl, h9, hb9⟩
  have q9 := T3.out.below hb9
  clear hcg hfg hcx7 hcx8
  have hcg := q9.cells
  have hfg := q9.free
  go_wp2
  exact bodyPost_ret (v := .agg #[.int .i64 infW, .slice A9 n9 c9]) (by simp [results, Try.results15, go_sem, hcg]) rfl ⟨A9, n9, c9, by rw [HA.out], by rw [HA.out]; exact h9.far (onlyW _ _ _ _) q9.noLimb, belowW (below_step hb9 hB) (by omega) _ _⟩

set_option maxHeartbeats 8000000 in
theorem rleastMul2 (z : Int) (A : Option Addr) (n c : Nat) (x : LW) (K : Nat) (z2 : Int) (A2 : Option Addr) (n2 c2 : Nat) (y : LW) (L : Nat) (w : World) (h : RawW w z A n c x K) (h' : RawW w z2 A2 n2 c2 y L) (hK : K ≤ 900) (hL : L ≤ 900) (hge : ¬ infW ≤ x.1 + y.1) :
    Calls Try.prog 15 #[.agg #[.int .i64 z, .slice A n c], .agg #[.int .i64 z2, .slice A2 n2 c2]] w (RetLW (mulW x y) (K + L) w) := by
  have HA : Hid (mulW x y = (x.1 + y.1, x.2 * y.2)) := if_neg hge
  have HL := hide hge
  clear hge
  obtain ⟨W, hW, hS, q1, q2, q3⟩ := boxR w z A n c z2 A2 n2 c2
  have hr1 := h.below hS
  have hr2 := h'.below hS
  have HW := hide hW
  have Q2 := hide q2
  have Q3 := hide q3
  have Q1 := hide q1
  have hc1 := q1.cells
  clear hW q1 q2 q3 h h'
  go_enter Try.func15, Try.ntmps15
  go_wp2_with fail
  rw [← HW.out]
  refine (rleast_any z A n c x K W hr1 (by omega)).mono ?_
  rintro e w1 ⟨A10, n10, c10, rfl, cx, hb1⟩
  obtain ⟨xa, hxa⟩ : ∃ xa, x.1 = xa := ⟨_, rfl⟩
  obtain ⟨ya, hya⟩ : ∃ ya, y.1 = ya := ⟨_, rfl⟩
  rw [hxa]
  have HX1 := hide hxa
  have HY1 := hide hya
  have p1 := Q1.out.below hb1
  have o1 := onlyW w1 w.heap.size (.int .i64 xa) (.slice A10 n10 c10)
  have r1 := p1.store xa A10 n10 c10
  have r2 := BoxW.grown (Q2.out.below hb1) o1 (by omega)
  have r3 := BoxW.grown (Q3.out.below hb1) o1 (by omega)
  have ex := cx.far o1 p1.noLimb
  have ey := (hr2.below hb1).far o1 p1.noLimb
  have hB1 := belowW (below_step hb1 hS) (Nat.le_refl _) (.int .i64 xa) (.slice A10 n10 c10)
  clear hc1
  have hc1 := p1.cells
  have hf1 := p1.free
  have hc2 := r2.cells
  have HF := hide (And.intro r1 (And.intro r2 (And.intro r3 (And.intro ex (And.intro ey hB1)))))
  clear r1 r2 r3 ex ey hB1 p1 o1 cx hr1 hr2 hb1 hxa Q1 Q2 Q3 hS HW
  go_wp2_with fail
  obtain ⟨r1, r2, r3, ex, ey, hB1⟩ := HF.out
  clear HF hc1 hf1 hc2
  obtain ⟨V, hV⟩ : ∃ V, V = (w1.setCell ⟨w.heap.size, 0, none⟩ (.int .i64 xa)).setCell ⟨w.heap.size, 1, none⟩ (.slice A10 n10 c10) := ⟨_, rfl⟩
  rw [← hV] at r1 r2 r3 ex ey hB1
  rw [← hV]
  clear hV
  refine (rleast_any z2 A2 n2 c2 y L V ey (by omega)).mono ?_
  rintro e w2 ⟨A12, n12, c12, rfl, cy, hb2⟩
  rw [hya]
  clear hya
  have p2 := r2.below hb2
  have o2 := onlyW w2 (w.heap.size + 1) (.int .i64 ya) (.slice A12 n12 c12)
  have t8 := p2.store ya A12 n12 c12
  have t7 := BoxW.grown (r1.below hb2) o2 (by omega)
  have t3 := BoxW.grown (r3.below hb2) o2 (by omega)
  have gx := (ex.below hb2).far o2 p2.noLimb
  have gy := cy.far o2 p2.noLimb
  have hB := belowW (below_step hb2 hB1) (by omega : w.heap.size ≤ w.heap.size + 1) (.int .i64 ya) (.slice A12 n12 c12)
  have hc2 := p2.cells
  have hf2 := p2.free
  have HF := hide (And.intro t7 (And.intro t8 (And.intro t3 (And.intro gx (And.intro gy hB)))))
  clear t7 t8 t3 gx gy hB p2 o2 cy r1 r2 r3 ex ey hb2 hB1
  go_upto_region 3 with (fail)
  obtain ⟨t7, t8, t3, cx, cy, hB⟩ := HF.out
  clear HF hc2 hf2
  obtain ⟨V9, hV⟩ : ∃ V9, V9 = (w2.setCell ⟨w.heap.size + 1, 0, none⟩ (.int .i64 ya)).setCell ⟨w.heap.size + 1, 1, none⟩ (.slice A12 n12 c12) := ⟨_, rfl⟩
  rw [← hV] at t7 t8 t3 cx cy hB
  rw [← hV]
  clear hV
  have T7 := hide t7
  have T8 := hide t8
  have T3 := hide t3
  have hcx7 := t7.cells
  have hcx8 := t8.cells
  have hcg := t3.cells
  have hfg := t3.free
  have hz3 := t3.2
  clear t7 t8 t3
  have hxr : 0 ≤ xa ∧ xa ≤ 4611686018427387904 := by have := HX1.out; have h5 := cx.can; unfold CanW at h5; have hi : infW = 4611686018427387904 := rfl; omega
  have hyr : 0 ≤ ya ∧ ya ≤ 4611686018427387904 := by have := HY1.out; have h5 := cy.can; unfold CanW at h5; have hi : infW = 4611686018427387904 := rfl; omega
  go_wp2_with fail
  refine (rminPlus_mul xa ya _).mono ?_
  rintro e w9 ⟨rfl, hb9⟩
  have t7 := T7.out.below hb9
  have t8 := T8.out.below hb9
  have t3 := T3.out.below hb9
  have ux := cx.below hb9
  have uy := cy.below hb9
  have uB := below_step hb9 hB
  clear hcx7 hcx8 hcg hfg T7 T8 T3 cx cy hB hb9
  have cx := ux
  have cy := uy
  have hB := uB
  clear ux uy uB
  have hcx7 := t7.cells
  have hcx8 := t8.cells
  have hcg := t3.cells
  have hfg := t3.free
  have T7 := hide t7
  have T8 := hide t8
  have T3 := hide t3
  clear t7 t8 t3
  obtain ⟨mm, hmm⟩ : ∃ mm, mm = xa + ya := ⟨_, rfl⟩
  have hm : cMul xa ya = mm := by have := HX1.out; have := HY1.out; have := HL.out; have hi : infW = 4611686018427387904 := rfl; unfold cMul cCost; omega
  rw [hm]
  clear hm
  have HM := hide hmm
  clear hmm
  have hl4 : (mm == 4611686018427387904) = false := by have := HX1.out; have := HY1.out; have := HL.out; have hi : infW = 4611686018427387904 := rfl; have := HM.out; simp; omega
  go_wp2_with fail
  refine (rmul2 cx.num cy.num (by have := cx.hn; omega) (by have := cy.hn; omega)).mono ?_
  rintro e w8 ⟨A29, n29, c29, rfl, h29, hb9, k29⟩
  simp only [val_limbs] at h29
  have k30 : n29 ≤ K + L := by have := cx.hn; have := cy.hn; omega
  have q9 := T3.out.below hb9
  have hb8 := below_step hb9 hB
  clear hcg hfg hcx7 hcx8
  have hcg := q9.cells
  have hfg := q9.free
  go_wp2
  exact bodyPost_ret (v := .agg #[.int .i64 mm, .slice A29 n29 c29]) (by simp [results, Try.results15, go_sem, hcg]) rfl ⟨A29, n29, c29, by rw [HA.out, HX1.out, HY1.out, HM.out], ⟨by rw [HA.out]; exact Rd.farW h29 (onlyW _ _ _ _) q9.noLimb, k30, mulW_can cx.can cy.can⟩, belowW hb8 (by omega) _ _⟩

set_option maxHeartbeats 8000000 in
theorem rleastMul (z : Int) (A : Option Addr) (n c : Nat) (x : LW) (K : Nat) (z2 : Int) (A2 : Option Addr) (n2 c2 : Nat) (y : LW) (L : Nat) (w : World) (h : RawW w z A n c x K) (h' : RawW w z2 A2 n2 c2 y L) (hK : K ≤ 900) (hL : L ≤ 900) :
    Calls Try.prog 15 #[.agg #[.int .i64 z, .slice A n c], .agg #[.int .i64 z2, .slice A2 n2 c2]] w (RetLW (mulW x y) (K + L) w) := by
  by_cases h1 : infW ≤ x.1 + y.1
  · exact rleastMul1 z A n c x K z2 A2 n2 c2 y L w h h' hK hL h1
  · exact rleastMul2 z A n c x K z2 A2 n2 c2 y L w h h' hK hL h1

end Go.Proofs.Ytonimfogmplgdaa
