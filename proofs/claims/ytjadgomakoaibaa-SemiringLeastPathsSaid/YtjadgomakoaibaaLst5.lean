/- The walk of the reference's least weight in its canonical form. The walks of the reference's sum and product of least weights. The reference's sum (joined), product and comparison of least weights. The reference's comparison of least weights. -/
import Derived.Test.YtjadgomakoaibaaLst2
import Derived.Test.YtjadgomakoaibaaCosts
namespace Go.Proofs.Ytjadgomakoaibaa
open Go.RowKit

set_option maxHeartbeats 4000000 in
theorem rleast_any (z : Int) (A : Option Addr) (n c : Nat) (x : LW) (K : Nat) (w : World) (h : RawW w z A n c x K) (hK : K ≤ 1000) :
    Calls Try.prog 49 #[.agg #[.int .i64 z, .slice A n c]] w (RetLW x K w) := by
  obtain ⟨W, hW, hS, q1, q3⟩ := boxW2 w z A n c
  obtain ⟨⟨l, hl, hx⟩, hn⟩ := h.below hS
  have HW := hide hW
  have Q1 := hide q1
  have Q3 := hide q3
  have hc1 := q1.cells
  have hz3 := q3.2
  have hi : infW = 4611686018427387904 := rfl
  clear hW q1 q3 h
  by_cases hz : infW ≤ z
  · have HX : Hid (x = (infW, 0)) := by rw [Hid, ← hx]; exact if_pos (.inr hz)
    have hz1 : (4611686018427387904 : Int) ≤ z := by omega
    clear hx hi hz
    go_enter Try.func49, Try.ntmps49
    go_wp2_with fail
    rw [← HW.out]
    refine (none_any _ K).mono ?_
    rintro e w2 ⟨A2, n2, c2, rfl, h2, hb2⟩
    have q32 := (Q3.out).below hb2
    clear hc1
    have hcg := q32.cells
    have hfg := q32.free
    go_wp2
    exact bodyPost_ret (v := .agg #[.int .i64 infW, .slice A2 n2 c2]) (by simp [results, Try.results49, go_sem, hcg]) rfl ⟨A2, n2, c2, by rw [HX.out], by rw [HX.out]; exact h2.far (onlyW _ _ _ _) q32.noLimb, belowW (below_step hb2 hS) (by omega) _ _⟩
  · have hz1 : ¬ (4611686018427387904 : Int) ≤ z := by omega
    have hz2 : z < 4611686018427387904 := by omega
    by_cases hN : val l = 0
    · have HX : Hid (x = (infW, 0)) := by rw [Hid, ← hx, hN]; exact if_pos (.inl rfl)
      have hcall := rzero_any A n c l W hl (by omega) true (by simp [hN])
      clear hx hi hz hN
      go_enter Try.func49, Try.ntmps49
      go_wp2_with fail
      rw [← HW.out]
      refine hcall.mono ?_
      rintro e w1 ⟨rfl, hb1⟩
      clear hcall
      go_wp2_with fail
      refine (none_any _ K).mono ?_
      rintro e w2 ⟨A2, n2, c2, rfl, h2, hb2⟩
      have q32 := (Q3.out.below hb1).below hb2
      clear hc1
      have hcg := q32.cells
      have hfg := q32.free
      go_wp2
      exact bodyPost_ret (v := .agg #[.int .i64 infW, .slice A2 n2 c2]) (by simp [results, Try.results49, go_sem, hcg]) rfl ⟨A2, n2, c2, by rw [HX.out], by rw [HX.out]; exact h2.far (onlyW _ _ _ _) q32.noLimb, belowW (below_step hb2 (below_step hb1 hS)) (by omega) _ _⟩
    · have HX : Hid (x = (max z 0, val l)) := by rw [Hid, ← hx]; exact if_neg (by simp only [not_or]; exact ⟨hN, hz⟩)
      have HC := hide (show CanW x by rw [← hx]; exact lvW_can _ _)
      have hcall := rzero_any A n c l W hl (by omega) false (by simp [hN])
      obtain ⟨y, hy⟩ : ∃ y, y = max z 0 := ⟨_, rfl⟩
      have HY := hide hy
      have hmx : max 0 z = y := by rw [hy]; omega
      clear hx hi hz hN hy
      go_enter Try.func49, Try.ntmps49
      go_wp2_with fail
      rw [← HW.out]
      refine hcall.mono ?_
      rintro e w1 ⟨rfl, hb1⟩
      have hl1 := hl.below hb1
      have T1 := hide (Q1.out.below hb1)
      have T3 := hide (Q3.out.below hb1)
      clear hcall hc1 hl
      go_upto_region 3 with (fail)
      refine wp_region_tab 7 19 [IsV (.pointer (some ⟨w.heap.size, 0, none⟩)), IsV (.int .i64 z), IsV (.int .i64 y), IsV (.pointer (some ⟨w.heap.size, 1, none⟩)), IsV (.slice A n c), IsLN (val l) K, IsL40 y (val l) K] (From w1) (by kernel_rfl) (by kernel_rfl) (by kernel_rfl) rfl From.lasting' (From.drew (From.refl w1)) ?_
      simp only [List.take_succ_cons, List.drop_succ_cons, List.take_zero, List.drop_zero]
      refine Tab.cons IsV.lasting (fun wx hx hd => ?_) (fun v12 => ?_)
      · skip
        clear hd
        intro KK hK
        go_simp
        exact hK.out _ _ rfl (Below.refl _ _)
      simp only [Act.put, List.setIfInBounds_toArray, List.set_cons_zero, List.set_cons_succ]
      refine Tab.cons IsV.lasting (fun wx hx hd => ?_) (fun v13 => ?_)
      · skip
        have e12 : v12 = _ := (hd _ (.head _) (by kernel_rfl) : (IsV (.pointer (some ⟨w.heap.size, 0, none⟩))) v12 wx)
        subst e12
        clear hd
        intro KK hK
        have hcell := (T1.out.later hx).cells
        go_simp
        exact hK.out _ _ rfl (Below.refl _ _)
      simp only [Act.put, List.setIfInBounds_toArray, List.set_cons_zero, List.set_cons_succ]
      refine Tab.cons IsV.lasting (fun wx hx hd => ?_) (fun v14 => ?_)
      · skip
        have e13 : v13 = _ := (hd _ (.head _) (by kernel_rfl) : (IsV (.int .i64 z)) v13 wx)
        subst e13
        clear hd
        intro KK hK
        try rw [hmx]
        go_simp
        exact hK.out _ _ rfl (Below.refl _ _)
      simp only [Act.put, List.setIfInBounds_toArray, List.set_cons_zero, List.set_cons_succ]
      refine Tab.cons IsV.lasting (fun wx hx hd => ?_) (fun v15 => ?_)
      · skip
        clear hd
        intro KK hK
        go_simp
        exact hK.out _ _ rfl (Below.refl _ _)
      simp only [Act.put, List.setIfInBounds_toArray, List.set_cons_zero, List.set_cons_succ]
      refine Tab.cons IsV.lasting (fun wx hx hd => ?_) (fun v16 => ?_)
      · skip
        have e15 : v15 = _ := (hd _ (.head _) (by kernel_rfl) : (IsV (.pointer (some ⟨w.heap.size, 1, none⟩))) v15 wx)
        subst e15
        clear hd
        intro KK hK
        have hcell := (T1.out.later hx).cells
        go_simp
        exact hK.out _ _ rfl (Below.refl _ _)
      simp only [Act.put, List.setIfInBounds_toArray, List.set_cons_zero, List.set_cons_succ]
      refine Tab.cons IsLN.lasting (fun wx hx hd => ?_) (fun v17 => ?_)
      · skip
        have e16 : v16 = _ := (hd _ (.head _) (by kernel_rfl) : (IsV (.slice A n c)) v16 wx)
        subst e16
        clear hd
        intro KK hK
        go_simp
        refine (rtrim1 (hl1.below hx.out) (by omega)).mono ?_
        rintro e w' ⟨A', n', c', rfl, h', hb', hn'⟩
        exact hK.out _ _ ⟨A', n', c', rfl, h', by omega⟩ hb'
      simp only [Act.put, List.setIfInBounds_toArray, List.set_cons_zero, List.set_cons_succ]
      refine Tab.cons IsL40.lasting (fun wx hx hd => ?_) (fun v18 => ?_)
      · skip
        have e14 : v14 = _ := (hd _ (.tail _ (.tail _ (.tail _ (.head _)))) (by kernel_rfl) : (IsV (.int .i64 y)) v14 wx)
        subst e14
        obtain ⟨A17, n17, c17, rfl, h17, k17⟩ := (hd _ (.head _) (by kernel_rfl) : (IsLN (val l) K) v17 wx)
        clear hd
        intro KK hK
        go_simp
        exact hK.out _ _ ⟨A17, n17, c17, rfl, h17, k17⟩ (Below.refl _ _)
      simp only [Act.put, List.setIfInBounds_toArray, List.set_cons_zero, List.set_cons_succ]
      refine Tab.nil fun wx hx hd => ?_
      obtain ⟨A18, n18, c18, rfl, h18, k18⟩ := (hd _ (.head _) : (IsL40 y (val l) K) v18 wx)
      clear hd
      have q31 := T3.out.later hx
      have hcg := q31.cells
      have hfg := q31.free
      go_wp2
      exact bodyPost_ret (v := .agg #[.int .i64 y, .slice A18 n18 c18]) (by simp [results, Try.results49, go_sem, hcg]) rfl ⟨A18, n18, c18, by rw [HX.out, ← HY.out], ⟨Rd.farW (by rw [HX.out]; exact h18) (onlyW _ _ _ _) q31.noLimb, k18, HC.out⟩, belowW (below_step hx.out (below_step hb1 hS)) (by omega) _ _⟩

theorem boxR (w : World) (z : Int) (A : Option Addr) (n c : Nat) (z2 : Int) (A2 : Option Addr) (n2 c2 : Nat) :
    ∃ W, W = ((w.alloc (.cells #[.int .i64 z, .slice A n c] 51)).alloc (.cells #[.int .i64 z2, .slice A2 n2 c2] 51)).alloc (.cells #[.int .i64 0, .slice none 0 0] 51) ∧ Below w.heap.size w W ∧
      BoxW W w.heap.size z A n c ∧ BoxW W (w.heap.size + 1) z2 A2 n2 c2 ∧ BoxW W (w.heap.size + 1 + 1) 0 none 0 0 := by
  have b1 := below_alloc w (.cells #[.int .i64 z, .slice A n c] 51)
  have b2 := below_alloc (w.alloc (.cells #[.int .i64 z, .slice A n c] 51)) (.cells #[.int .i64 z2, .slice A2 n2 c2] 51)
  have b3 := below_alloc ((w.alloc (.cells #[.int .i64 z, .slice A n c] 51)).alloc (.cells #[.int .i64 z2, .slice A2 n2 c2] 51)) (.cells #[.int .i64 0, .slice none 0 0] 51)
  have q1 := ((BoxW.new w z A n c).below b2).below b3
  have q2 := (BoxW.new (w.alloc (.cells #[.int .i64 z, .slice A n c] 51)) z2 A2 n2 c2).below b3
  have q3 := BoxW.new ((w.alloc (.cells #[.int .i64 z, .slice A n c] 51)).alloc (.cells #[.int .i64 z2, .slice A2 n2 c2] 51)) 0 none 0 0
  refine ⟨_, rfl, below_step b3 (below_step b2 b1), q1, ?_, ?_⟩
  · have e : (w.alloc (.cells #[.int .i64 z, .slice A n c] 51)).heap.size = w.heap.size + 1 := by simp
    rw [e] at q2; exact q2
  · have e : ((w.alloc (.cells #[.int .i64 z, .slice A n c] 51)).alloc (.cells #[.int .i64 z2, .slice A2 n2 c2] 51)).heap.size = w.heap.size + 1 + 1 := by simp
    rw [e] at q3; exact q3

set_option maxHeartbeats 8000000 in
theorem rleastAdd1 (z : Int) (A : Option Addr) (n c : Nat) (x : LW) (K : Nat) (z2 : Int) (A2 : Option Addr) (n2 c2 : Nat) (y : LW) (L : Nat) (w : World) (h : RawW w z A n c x K) (h' : RawW w z2 A2 n2 c2 y L) (hK : K ≤ 900) (hL : L ≤ 900) (hlt : x.1 < y.1) :
    Calls Try.prog 39 #[.agg #[.int .i64 z, .slice A n c], .agg #[.int .i64 z2, .slice A2 n2 c2]] w (RetLW (addW x y) (K + L + 1) w) := by
  have HA : Hid (addW x y = x) := if_pos hlt
  have HL := hide hlt
  clear hlt
  obtain ⟨W, hW, hS, q1, q2, q3⟩ := boxR w z A n c z2 A2 n2 c2
  have hr1 := h.below hS
  have hr2 := h'.below hS
  have HW := hide hW
  have Q2 := hide q2
  have Q3 := hide q3
  have Q1 := hide q1
  have hc1 := q1.cells
  clear hW q1 q2 q3 h h'
  go_enter Try.func39, Try.ntmps39
  go_wp2_with fail
  rw [← HW.out]
  refine (rleast_any z A n c x K W hr1 (by omega)).mono ?_
  rintro e w1 ⟨A10, n10, c10, rfl, cx, hb1⟩
  obtain ⟨xa, hxa⟩ : ∃ xa, x.1 = xa := ⟨_, rfl⟩
  obtain ⟨ya, hya⟩ : ∃ ya, y.1 = ya := ⟨_, rfl⟩
  rw [hxa]
  have HX1 := hide hxa
  have HY1 := hide hya
  have p1 := Q1.out.below hb1
  have o1 := onlyW w1 w.heap.size (.int .i64 xa) (.slice A10 n10 c10)
  have r1 := p1.store xa A10 n10 c10
  have r2 := BoxW.grown (Q2.out.below hb1) o1 (by omega)
  have r3 := BoxW.grown (Q3.out.below hb1) o1 (by omega)
  have ex := cx.far o1 p1.noLimb
  have ey := (hr2.below hb1).far o1 p1.noLimb
  have hB1 := belowW (below_step hb1 hS) (Nat.le_refl _) (.int .i64 xa) (.slice A10 n10 c10)
  clear hc1
  have hc1 := p1.cells
  have hf1 := p1.free
  have hc2 := r2.cells
  have HF := hide (And.intro r1 (And.intro r2 (And.intro r3 (And.intro ex (And.intro ey hB1)))))
  clear r1 r2 r3 ex ey hB1 p1 o1 cx hr1 hr2 hb1 hxa Q1 Q2 Q3 hS HW
  go_wp2_with fail
  obtain ⟨r1, r2, r3, ex, ey, hB1⟩ := HF.out
  clear HF hc1 hf1 hc2
  obtain ⟨V, hV⟩ : ∃ V, V = (w1.setCell ⟨w.heap.size, 0, none⟩ (.int .i64 xa)).setCell ⟨w.heap.size, 1, none⟩ (.slice A10 n10 c10) := ⟨_, rfl⟩
  rw [← hV] at r1 r2 r3 ex ey hB1
  rw [← hV]
  clear hV
  refine (rleast_any z2 A2 n2 c2 y L V ey (by omega)).mono ?_
  rintro e w2 ⟨A12, n12, c12, rfl, cy, hb2⟩
  rw [hya]
  clear hya
  have p2 := r2.below hb2
  have o2 := onlyW w2 (w.heap.size + 1) (.int .i64 ya) (.slice A12 n12 c12)
  have t8 := p2.store ya A12 n12 c12
  have t7 := BoxW.grown (r1.below hb2) o2 (by omega)
  have t3 := BoxW.grown (r3.below hb2) o2 (by omega)
  have gx := (ex.below hb2).far o2 p2.noLimb
  have gy := cy.far o2 p2.noLimb
  have hB := belowW (below_step hb2 hB1) (by omega : w.heap.size ≤ w.heap.size + 1) (.int .i64 ya) (.slice A12 n12 c12)
  have hc2 := p2.cells
  have hf2 := p2.free
  have HF := hide (And.intro t7 (And.intro t8 (And.intro t3 (And.intro gx (And.intro gy hB)))))
  clear t7 t8 t3 gx gy hB p2 o2 cy r1 r2 r3 ex ey hb2 hB1
  go_upto_region 3 with (fail)
  obtain ⟨t7, t8, t3, cx, cy, hB⟩ := HF.out
  clear HF hc2 hf2
  obtain ⟨V9, hV⟩ : ∃ V9, V9 = (w2.setCell ⟨w.heap.size + 1, 0, none⟩ (.int .i64 ya)).setCell ⟨w.heap.size + 1, 1, none⟩ (.slice A12 n12 c12) := ⟨_, rfl⟩
  rw [← hV] at t7 t8 t3 cx cy hB
  rw [← hV]
  clear hV
  have T7 := hide t7
  have T8 := hide t8
  have T3 := hide t3
  have hcx7 := t7.cells
  have hcx8 := t8.cells
  have hcg := t3.cells
  have hfg := t3.free
  have hz3 := t3.2
  clear t7 t8 t3
  have hl2 : xa < ya := by have := HX1.out; have := HY1.out; have := HL.out; omega
  go_wp2
  exact bodyPost_ret (v := .agg #[.int .i64 xa, .slice A10 n10 c10]) (by simp [results, Try.results39, go_sem, hcg]) rfl ⟨A10, n10, c10, by rw [HA.out, HX1.out], by rw [HA.out]; exact (cx.wide (by omega)).far (onlyW _ _ _ _) T3.out.noLimb, belowW hB (by omega) _ _⟩

set_option maxHeartbeats 8000000 in
theorem rleastAdd2 (z : Int) (A : Option Addr) (n c : Nat) (x : LW) (K : Nat) (z2 : Int) (A2 : Option Addr) (n2 c2 : Nat) (y : LW) (L : Nat) (w : World) (h : RawW w z A n c x K) (h' : RawW w z2 A2 n2 c2 y L) (hK : K ≤ 900) (hL : L ≤ 900) (hlt : ¬ x.1 < y.1) (hgt : y.1 < x.1) :
    Calls Try.prog 39 #[.agg #[.int .i64 z, .slice A n c], .agg #[.int .i64 z2, .slice A2 n2 c2]] w (RetLW (addW x y) (K + L + 1) w) := by
  have HA : Hid (addW x y = y) := by rw [Hid]; unfold addW; rw [if_neg hlt, if_pos hgt]
  have HL := hide hgt
  clear hlt hgt
  obtain ⟨W, hW, hS, q1, q2, q3⟩ := boxR w z A n c z2 A2 n2 c2
  have hr1 := h.below hS
  have hr2 := h'.below hS
  have HW := hide hW
  have Q2 := hide q2
  have Q3 := hide q3
  have Q1 := hide q1
  have hc1 := q1.cells
  clear hW q1 q2 q3 h h'
  go_enter Try.func39, Try.ntmps39
  go_wp2_with fail
  rw [← HW.out]
  refine (rleast_any z A n c x K W hr1 (by omega)).mono ?_
  rintro e w1 ⟨A10, n10, c10, rfl, cx, hb1⟩
  obtain ⟨xa, hxa⟩ : ∃ xa, x.1 = xa := ⟨_, rfl⟩
  obtain ⟨ya, hya⟩ : ∃ ya, y.1 = ya := ⟨_, rfl⟩
  rw [hxa]
  have HX1 := hide hxa
  have HY1 := hide hya
  have p1 := Q1.out.below hb1
  have o1 := onlyW w1 w.heap.size (.int .i64 xa) (.slice A10 n10 c10)
  have r1 := p1.store xa A10 n10 c10
  have r2 := BoxW.grown (Q2.out.below hb1) o1 (by omega)
  have r3 := BoxW.grown (Q3.out.below hb1) o1 (by omega)
  have ex := cx.far o1 p1.noLimb
  have ey := (hr2.below hb1).far o1 p1.noLimb
  have hB1 := belowW (below_step hb1 hS) (Nat.le_refl _) (.int .i64 xa) (.slice A10 n10 c10)
  clear hc1
  have hc1 := p1.cells
  have hf1 := p1.free
  have hc2 := r2.cells
  have HF := hide (And.intro r1 (And.intro r2 (And.intro r3 (And.intro ex (And.intro ey hB1)))))
  clear r1 r2 r3 ex ey hB1 p1 o1 cx hr1 hr2 hb1 hxa Q1 Q2 Q3 hS HW
  go_wp2_with fail
  obtain ⟨r1, r2, r3, ex, ey, hB1⟩ := HF.out
  clear HF hc1 hf1 hc2
  obtain ⟨V, hV⟩ : ∃ V, V = (w1.setCell ⟨w.heap.size, 0, none⟩ (.int .i64 xa)).setCell ⟨w.heap.size, 1, none⟩ (.slice A10 n10 c10) := ⟨_, rfl⟩
  rw [← hV] at r1 r2 r3 ex ey hB1
  rw [← hV]
  clear hV
  refine (rleast_any z2 A2 n2 c2 y L V ey (by omega)).mono ?_
  rintro e w2 ⟨A12, n12, c12, rfl, cy, hb2⟩
  rw [hya]
  clear hya
  have p2 := r2.below hb2
  have o2 := onlyW w2 (w.heap.size + 1) (.int .i64 ya) (.slice A12 n12 c12)
  have t8 := p2.store ya A12 n12 c12
  have t7 := BoxW.grown (r1.below hb2) o2 (by omega)
  have t3 := BoxW.grown (r3.below hb2) o2 (by omega)
  have gx := (ex.below hb2).far o2 p2.noLimb
  have gy := cy.far o2 p2.noLimb
  have hB := belowW (below_step hb2 hB1) (by omega : w.heap.size ≤ w.heap.size + 1) (.int .i64 ya) (.slice A12 n12 c12)
  have hc2 := p2.cells
  have hf2 := p2.free
  have HF := hide (And.intro t7 (And.intro t8 (And.intro t3 (And.intro gx (And.intro gy hB)))))
  clear t7 t8 t3 gx gy hB p2 o2 cy r1 r2 r3 ex ey hb2 hB1
  go_upto_region 3 with (fail)
  obtain ⟨t7, t8, t3, cx, cy, hB⟩ := HF.out
  clear HF hc2 hf2
  obtain ⟨V9, hV⟩ : ∃ V9, V9 = (w2.setCell ⟨w.heap.size + 1, 0, none⟩ (.int .i64 ya)).setCell ⟨w.heap.size + 1, 1, none⟩ (.slice A12 n12 c12) := ⟨_, rfl⟩
  rw [← hV] at t7 t8 t3 cx cy hB
  rw [← hV]
  clear hV
  have T7 := hide t7
  have T8 := hide t8
  have T3 := hide t3
  have hcx7 := t7.cells
  have hcx8 := t8.cells
  have hcg := t3.cells
  have hfg := t3.free
  have hz3 := t3.2
  clear t7 t8 t3
  have hl2 : ¬ xa < ya := by have := HX1.out; have := HY1.out; have := HL.out; omega
  have hl3 : ya < xa := by have := HX1.out; have := HY1.out; have := HL.out; omega
  go_wp2
  exact bodyPost_ret (v := .agg #[.int .i64 ya, .slice A12 n12 c12]) (by simp [results, Try.results39, go_sem, hcg]) rfl ⟨A12, n12, c12, by rw [HA.out, HY1.out], by rw [HA.out]; exact (cy.wide (by omega)).far (onlyW _ _ _ _) T3.out.noLimb, belowW hB (by omega) _ _⟩

set_option maxHeartbeats 8000000 in
theorem rleastAdd3 (z : Int) (A : Option Addr) (n c : Nat) (x : LW) (K : Nat) (z2 : Int) (A2 : Option Addr) (n2 c2 : Nat) (y : LW) (L : Nat) (w : World) (h : RawW w z A n c x K) (h' : RawW w z2 A2 n2 c2 y L) (hK : K ≤ 900) (hL : L ≤ 900) (hlt : ¬ x.1 < y.1) (hgt : ¬ y.1 < x.1) (hinf : x.1 = infW) (hy0 : y = (infW, 0)) :
    Calls Try.prog 39 #[.agg #[.int .i64 z, .slice A n c], .agg #[.int .i64 z2, .slice A2 n2 c2]] w (RetLW (addW x y) (K + L + 1) w) := by
  have HA : Hid (addW x y = y) := by rw [Hid]; unfold addW; rw [if_neg hlt, if_neg hgt, if_pos hinf, hy0]
  have HL := hide (And.intro hlt hgt)
  have HIN := hide hinf
  clear hlt hgt hinf hy0
  obtain ⟨W, hW, hS, q1, q2, q3⟩ := boxR w z A n c z2 A2 n2 c2
  have hr1 := h.below hS
  have hr2 := h'.below hS
  have HW := hide hW
  have Q2 := hide q2
  have Q3 := hide q3
  have Q1 := hide q1
  have hc1 := q1.cells
  clear hW q1 q2 q3 h h'
  go_enter Try.func39, Try.ntmps39
  go_wp2_with fail
  rw [← HW.out]
  refine (rleast_any z A n c x K W hr1 (by omega)).mono ?_
  rintro e w1 ⟨A10, n10, c10, rfl, cx, hb1⟩
  obtain ⟨xa, hxa⟩ : ∃ xa, x.1 = xa := ⟨_, rfl⟩
  obtain ⟨ya, hya⟩ : ∃ ya, y.1 = ya := ⟨_, rfl⟩
  rw [hxa]
  have HX1 := hide hxa
  have HY1 := hide hya
  have p1 := Q1.out.below hb1
  have o1 := onlyW w1 w.heap.size (.int .i64 xa) (.slice A10 n10 c10)
  have r1 := p1.store xa A10 n10 c10
  have r2 := BoxW.grown (Q2.out.below hb1) o1 (by omega)
  have r3 := BoxW.grown (Q3.out.below hb1) o1 (by omega)
  have ex := cx.far o1 p1.noLimb
  have ey := (hr2.below hb1).far o1 p1.noLimb
  have hB1 := belowW (below_step hb1 hS) (Nat.le_refl _) (.int .i64 xa) (.slice A10 n10 c10)
  clear hc1
  have hc1 := p1.cells
  have hf1 := p1.free
  have hc2 := r2.cells
  have HF := hide (And.intro r1 (And.intro r2 (And.intro r3 (And.intro ex (And.intro ey hB1)))))
  clear r1 r2 r3 ex ey hB1 p1 o1 cx hr1 hr2 hb1 hxa Q1 Q2 Q3 hS HW
  go_wp2_with fail
  obtain ⟨r1, r2, r3, ex, ey, hB1⟩ := HF.out
  clear HF hc1 hf1 hc2
  obtain ⟨V, hV⟩ : ∃ V, V = (w1.setCell ⟨w.heap.size, 0, none⟩ (.int .i64 xa)).setCell ⟨w.heap.size, 1, none⟩ (.slice A10 n10 c10) := ⟨_, rfl⟩
  rw [← hV] at r1 r2 r3 ex ey hB1
  rw [← hV]
  clear hV
  refine (rleast_any z2 A2 n2 c2 y L V ey (by omega)).mono ?_
  rintro e w2 ⟨A12, n12, c12, rfl, cy, hb2⟩
  rw [hya]
  clear hya
  have p2 := r2.below hb2
  have o2 := onlyW w2 (w.heap.size + 1) (.int .i64 ya) (.slice A12 n12 c12)
  have t8 := p2.store ya A12 n12 c12
  have t7 := BoxW.grown (r1.below hb2) o2 (by omega)
  have t3 := BoxW.grown (r3.below hb2) o2 (by omega)
  have gx := (ex.below hb2).far o2 p2.noLimb
  have gy := cy.far o2 p2.noLimb
  have hB := belowW (below_step hb2 hB1) (by omega : w.heap.size ≤ w.heap.size + 1) (.int .i64 ya) (.slice A12 n12 c12)
  have hc2 := p2.cells
  have hf2 := p2.free
  have HF := hide (And.intro t7 (And.intro t8 (And.intro t3 (And.intro gx (And.intro gy hB)))))
  clear t7 t8 t3 gx gy hB p2 o2 cy r1 r2 r3 ex ey hb2 hB1
  go_upto_region 3 with (fail)
  obtain ⟨t7, t8, t3, cx, cy, hB⟩ := HF.out
  clear HF hc2 hf2
  obtain ⟨V9, hV⟩ : ∃ V9, V9 = (w2.setCell ⟨w.heap.size + 1, 0, none⟩ (.int .i64 ya)).setCell ⟨w.heap.size + 1, 1, none⟩ (.slice A12 n12 c12) := ⟨_, rfl⟩
  rw [← hV] at t7 t8 t3 cx cy hB
  rw [← hV]
  clear hV
  have T7 := hide t7
  have T8 := hide t8
  have T3 := hide t3
  have hcx7 := t7.cells
  have hcx8 := t8.cells
  have hcg := t3.cells
  have hfg := t3.free
  have hz3 := t3.2
  clear t7 t8 t3
  have hl2 : ¬ xa < ya := by have := HX1.out; have := HY1.out; have := HL.out; omega
  have hl3 : ¬ ya < xa := by have := HX1.out; have := HY1.out; have := HL.out; omega
  have hl4 : (ya == 4611686018427387904) = true := by have := HX1.out; have := HY1.out; have := HL.out; have := HIN.out; have hi : infW = 4611686018427387904 := rfl; simp; omega
  go_wp2
  exact bodyPost_ret (v := .agg #[.int .i64 ya, .slice A12 n12 c12]) (by simp [results, Try.results39, go_sem, hcg]) rfl ⟨A12, n12, c12, by rw [HA.out, HY1.out], by rw [HA.out]; exact (cy.wide (by omega)).far (onlyW _ _ _ _) T3.out.noLimb, belowW hB (by omega) _ _⟩

set_option maxHeartbeats 8000000 in
theorem rleastAdd4 (z : Int) (A : Option Addr) (n c : Nat) (x : LW) (K : Nat) (z2 : Int) (A2 : Option Addr) (n2 c2 : Nat) (y : LW) (L : Nat) (w : World) (h : RawW w z A n c x K) (h' : RawW w z2 A2 n2 c2 y L) (hK : K ≤ 900) (hL : L ≤ 900) (hlt : ¬ x.1 < y.1) (hgt : ¬ y.1 < x.1) (hinf : x.1 ≠ infW) :
    Calls Try.prog 39 #[.agg #[.int .i64 z, .slice A n c], .agg #[.int .i64 z2, .slice A2 n2 c2]] w (RetLW (addW x y) (K + L + 1) w) := by
  have HA : Hid (addW x y = (x.1, x.2 + y.2)) := by rw [Hid]; unfold addW; rw [if_neg hlt, if_neg hgt, if_neg hinf]
  have HL := hide (And.intro hlt hgt)
  have HIN := hide hinf
  clear hlt hgt hinf
  obtain ⟨W, hW, hS, q1, q2, q3⟩ := boxR w z A n c z2 A2 n2 c2
  have hr1 := h.below hS
  have hr2 := h'.below hS
  have HW := hide hW
  have Q2 := hide q2
  have Q3 := hide q3
  have Q1 := hide q1
  have hc1 := q1.cells
  clear hW q1 q2 q3 h h'
  go_enter Try.func39, Try.ntmps39
  go_wp2_with fail
  rw [← HW.out]
  refine (rleast_any z A n c x K W hr1 (by omega)).mono ?_
  rintro e w1 ⟨A10, n10, c10, rfl, cx, hb1⟩
  obtain ⟨xa, hxa⟩ : ∃ xa, x.1 = xa := ⟨_, rfl⟩
  obtain ⟨ya, hya⟩ : ∃ ya, y.1 = ya := ⟨_, rfl⟩
  rw [hxa]
  have HX1 := hide hxa
  have HY1 := hide hya
  have p1 := Q1.out.below hb1
  have o1 := onlyW w1 w.heap.size (.int .i64 xa) (.slice A10 n10 c10)
  have r1 := p1.store xa A10 n10 c10
  have r2 := BoxW.grown (Q2.out.below hb1) o1 (by omega)
  have r3 := BoxW.grown (Q3.out.below hb1) o1 (by omega)
  have ex := cx.far o1 p1.noLimb
  have ey := (hr2.below hb1).far o1 p1.noLimb
  have hB1 := belowW (below_step hb1 hS) (Nat.le_refl _) (.int .i64 xa) (.slice A10 n10 c10)
  clear hc1
  have hc1 := p1.cells
  have hf1 := p1.free
  have hc2 := r2.cells
  have HF := hide (And.intro r1 (And.intro r2 (And.intro r3 (And.intro ex (And.intro ey hB1)))))
  clear r1 r2 r3 ex ey hB1 p1 o1 cx hr1 hr2 hb1 hxa Q1 Q2 Q3 hS HW
  go_wp2_with fail
  obtain ⟨r1, r2, r3, ex, ey, hB1⟩ := HF.out
  clear HF hc1 hf1 hc2
  obtain ⟨V, hV⟩ : ∃ V, V = (w1.setCell ⟨w.heap.size, 0, none⟩ (.int .i64 xa)).setCell ⟨w.heap.size, 1, none⟩ (.slice A10 n10 c10) := ⟨_, rfl⟩
  rw [← hV] at r1 r2 r3 ex ey hB1
  rw [← hV]
  clear hV
  refine (rleast_any z2 A2 n2 c2 y L V ey (by omega)).mono ?_
  rintro e w2 ⟨A12, n12, c12, rfl, cy, hb2⟩
  rw [hya]
  clear hya
  have p2 := r2.below hb2
  have o2 := onlyW w2 (w.heap.size + 1) (.int .i64 ya) (.slice A12 n12 c12)
  have t8 := p2.store ya A12 n12 c12
  have t7 := BoxW.grown (r1.below hb2) o2 (by omega)
  have t3 := BoxW.grown (r3.below hb2) o2 (by omega)
  have gx := (ex.below hb2).far o2 p2.noLimb
  have gy := cy.far o2 p2.noLimb
  have hB := belowW (below_step hb2 hB1) (by omega : w.heap.size ≤ w.heap.size + 1) (.int .i64 ya) (.slice A12 n12 c12)
  have hc2 := p2.cells
  have hf2 := p2.free
  have HF := hide (And.intro t7 (And.intro t8 (And.intro t3 (And.intro gx (And.intro gy hB)))))
  clear t7 t8 t3 gx gy hB p2 o2 cy r1 r2 r3 ex ey hb2 hB1
  go_upto_region 3 with (fail)
  obtain ⟨t7, t8, t3, cx, cy, hB⟩ := HF.out
  clear HF hc2 hf2
  obtain ⟨V9, hV⟩ : ∃ V9, V9 = (w2.setCell ⟨w.heap.size + 1, 0, none⟩ (.int .i64 ya)).setCell ⟨w.heap.size + 1, 1, none⟩ (.slice A12 n12 c12) := ⟨_, rfl⟩
  rw [← hV] at t7 t8 t3 cx cy hB
  rw [← hV]
  clear hV
  have T7 := hide t7
  have T8 := hide t8
  have T3 := hide t3
  have hcx7 := t7.cells
  have hcx8 := t8.cells
  have hcg := t3.cells
  have hfg := t3.free
  have hz3 := t3.2
  clear t7 t8 t3
  have hl2 : ¬ xa < ya := by have := HX1.out; have := HY1.out; have := HL.out; omega
  have hl3 : ¬ ya < xa := by have := HX1.out; have := HY1.out; have := HL.out; omega
  have hl4 : (ya == 4611686018427387904) = false := by have := HX1.out; have := HY1.out; have := HL.out; have := HIN.out; have hi : infW = 4611686018427387904 := rfl; simp; omega
  go_upto_region 7 with (fail)
  refine wp_region_tab 8 34 [IsV (.pointer (some ⟨w.heap.size, 0, none⟩)), IsV (.int .i64 xa), IsV (.pointer (some ⟨w.heap.size, 1, none⟩)), IsV (.slice A10 n10 c10), IsV (.pointer (some ⟨w.heap.size + 1, 1, none⟩)), IsV (.slice A12 n12 c12), IsLN (x.2 + y.2) (K + L + 1), IsL40 xa (x.2 + y.2) (K + L + 1)] (From V9) (by kernel_rfl) (by kernel_rfl) (by kernel_rfl) rfl From.lasting' (From.drew (From.refl V9)) ?_
  simp only [List.take_succ_cons, List.drop_succ_cons, List.take_zero, List.drop_zero]
  refine Tab.cons IsV.lasting (fun wx hx hd => ?_) (fun v26 => ?_)
  · skip
    clear hd
    intro KK hK
    go_simp
    exact hK.out _ _ rfl (Below.refl _ _)
  simp only [Act.put, List.setIfInBounds_toArray, List.set_cons_zero, List.set_cons_succ]
  refine Tab.cons IsV.lasting (fun wx hx hd => ?_) (fun v27 => ?_)
  · skip
    have e26 : v26 = _ := (hd _ (.head _) (by kernel_rfl) : (IsV (.pointer (some ⟨w.heap.size, 0, none⟩))) v26 wx)
    subst e26
    clear hd
    intro KK hK
    have hcell := (T7.out.later hx).cells
    go_simp
    exact hK.out _ _ rfl (Below.refl _ _)
  simp only [Act.put, List.setIfInBounds_toArray, List.set_cons_zero, List.set_cons_succ]
  refine Tab.cons IsV.lasting (fun wx hx hd => ?_) (fun v28 => ?_)
  · skip
    clear hd
    intro KK hK
    go_simp
    exact hK.out _ _ rfl (Below.refl _ _)
  simp only [Act.put, List.setIfInBounds_toArray, List.set_cons_zero, List.set_cons_succ]
  refine Tab.cons IsV.lasting (fun wx hx hd => ?_) (fun v29 => ?_)
  · skip
    have e28 : v28 = _ := (hd _ (.head _) (by kernel_rfl) : (IsV (.pointer (some ⟨w.heap.size, 1, none⟩))) v28 wx)
    subst e28
    clear hd
    intro KK hK
    have hcell := (T7.out.later hx).cells
    go_simp
    exact hK.out _ _ rfl (Below.refl _ _)
  simp only [Act.put, List.setIfInBounds_toArray, List.set_cons_zero, List.set_cons_succ]
  refine Tab.cons IsV.lasting (fun wx hx hd => ?_) (fun v30 => ?_)
  · skip
    clear hd
    intro KK hK
    go_simp
    exact hK.out _ _ rfl (Below.refl _ _)
  simp only [Act.put, List.setIfInBounds_toArray, List.set_cons_zero, List.set_cons_succ]
  refine Tab.cons IsV.lasting (fun wx hx hd => ?_) (fun v31 => ?_)
  · skip
    have e30 : v30 = _ := (hd _ (.head _) (by kernel_rfl) : (IsV (.pointer (some ⟨w.heap.size + 1, 1, none⟩))) v30 wx)
    subst e30
    clear hd
    intro KK hK
    have hcell := (T8.out.later hx).cells
    go_simp
    exact hK.out _ _ rfl (Below.refl _ _)
  simp only [Act.put, List.setIfInBounds_toArray, List.set_cons_zero, List.set_cons_succ]
  refine Tab.cons IsLN.lasting (fun wx hx hd => ?_) (fun v32 => ?_)
  · skip
    have e29 : v29 = _ := (hd _ (.tail _ (.tail _ (.head _))) (by kernel_rfl) : (IsV (.slice A10 n10 c10)) v29 wx)
    subst e29
    have e31 : v31 = _ := (hd _ (.head _) (by kernel_rfl) : (IsV (.slice A12 n12 c12)) v31 wx)
    subst e31
    clear hd
    intro KK hK
    go_simp
    refine (radd2 (cx.num.below hx.out) (cy.num.below hx.out) (by have := cx.hn; omega) (by have := cy.hn; omega)).mono ?_
    rintro e w' ⟨A', n', c', rfl, h', hb', hn'⟩
    simp only [val_limbs] at h'
    exact hK.out _ _ ⟨A', n', c', rfl, h', by have := cx.hn; have := cy.hn; omega⟩ hb'
  simp only [Act.put, List.setIfInBounds_toArray, List.set_cons_zero, List.set_cons_succ]
  refine Tab.cons IsL40.lasting (fun wx hx hd => ?_) (fun v33 => ?_)
  · skip
    have e27 : v27 = _ := (hd _ (.tail _ (.tail _ (.tail _ (.tail _ (.tail _ (.head _)))))) (by kernel_rfl) : (IsV (.int .i64 xa)) v27 wx)
    subst e27
    obtain ⟨A32, n32, c32, rfl, h32, k32⟩ := (hd _ (.head _) (by kernel_rfl) : (IsLN (x.2 + y.2) (K + L + 1)) v32 wx)
    clear hd
    intro KK hK
    go_simp
    exact hK.out _ _ ⟨A32, n32, c32, rfl, h32, k32⟩ (Below.refl _ _)
  simp only [Act.put, List.setIfInBounds_toArray, List.set_cons_zero, List.set_cons_succ]
  refine Tab.nil fun wx hx hd => ?_
  obtain ⟨A33, n33, c33, rfl, h33, k33⟩ := (hd _ (.head _) : (IsL40 xa (x.2 + y.2) (K + L + 1)) v33 wx)
  clear hd
  have q9 := T3.out.later hx
  clear hcg hfg
  have hcg := q9.cells
  have hfg := q9.free
  go_wp2
  exact bodyPost_ret (v := .agg #[.int .i64 xa, .slice A33 n33 c33]) (by simp [results, Try.results39, go_sem, hcg]) rfl ⟨A33, n33, c33, by rw [HA.out, HX1.out], ⟨by rw [HA.out]; exact Rd.farW h33 (onlyW _ _ _ _) q9.noLimb, k33, addW_can cx.can cy.can⟩, belowW (below_step hx.out hB) (by omega) _ _⟩

theorem RawW.can {w : World} {z : Int} {A : Option Addr} {n c : Nat} {x : LW} {K : Nat} (h : RawW w z A n c x K) : CanW x := by
  obtain ⟨⟨l, _, hx⟩, _⟩ := h
  rw [← hx]
  exact lvW_can _ _

set_option maxHeartbeats 8000000 in
theorem rleastAdd (z : Int) (A : Option Addr) (n c : Nat) (x : LW) (K : Nat) (z2 : Int) (A2 : Option Addr) (n2 c2 : Nat) (y : LW) (L : Nat) (w : World) (h : RawW w z A n c x K) (h' : RawW w z2 A2 n2 c2 y L) (hK : K ≤ 900) (hL : L ≤ 900) :
    Calls Try.prog 39 #[.agg #[.int .i64 z, .slice A n c], .agg #[.int .i64 z2, .slice A2 n2 c2]] w (RetLW (addW x y) (K + L + 1) w) := by
  by_cases h1 : x.1 < y.1
  · exact rleastAdd1 z A n c x K z2 A2 n2 c2 y L w h h' hK hL h1
  · by_cases h2 : y.1 < x.1
    · exact rleastAdd2 z A n c x K z2 A2 n2 c2 y L w h h' hK hL h1 h2
    · by_cases h3 : x.1 = infW
      · have hy := h'.can
        refine rleastAdd3 z A n c x K z2 A2 n2 c2 y L w h h' hK hL h1 h2 h3 ?_
        have hi : infW = 4611686018427387904 := rfl
        unfold CanW at hy
        exact Prod.ext (by simp only; omega) (by simp only; omega)
      · exact rleastAdd4 z A n c x K z2 A2 n2 c2 y L w h h' hK hL h1 h2 h3

set_option maxHeartbeats 8000000 in
theorem rleastMul1 (z : Int) (A : Option Addr) (n c : Nat) (x : LW) (K : Nat) (z2 : Int) (A2 : Option Addr) (n2 c2 : Nat) (y : LW) (L : Nat) (w : World) (h : RawW w z A n c x K) (h' : RawW w z2 A2 n2 c2 y L) (hK : K ≤ 900) (hL : L ≤ 900) (hge : infW ≤ x.1 + y.1) :
    Calls Try.prog 40 #[.agg #[.int .i64 z, .slice A n c], .agg #[.int .i64 z2, .slice A2 n2 c2]] w (RetLW (mulW x y) (K + L) w) := by
  have HA : Hid (mulW x y = (infW, 0)) := if_pos hge
  have HL := hide hge
  clear hge
  obtain ⟨W, hW, hS, q1, q2, q3⟩ := boxR w z A n c z2 A2 n2 c2
  have hr1 := h.below hS
  have hr2 := h'.below hS
  have HW := hide hW
  have Q2 := hide q2
  have Q3 := hide q3
  have Q1 := hide q1
  have hc1 := q1.cells
  clear hW q1 q2 q3 h h'
  go_enter Try.func40, Try.ntmps40
  go_wp2_with fail
  rw [← HW.out]
  refine (rleast_any z A n c x K W hr1 (by omega)).mono ?_
  rintro e w1 ⟨A10, n10, c10, rfl, cx, hb1⟩
  obtain ⟨xa, hxa⟩ : ∃ xa, x.1 = xa := ⟨_, rfl⟩
  obtain ⟨ya, hya⟩ : ∃ ya, y.1 = ya := ⟨_, rfl⟩
  rw [hxa]
  have HX1 := hide hxa
  have HY1 := hide hya
  have p1 := Q1.out.below hb1
  have o1 := onlyW w1 w.heap.size (.int .i64 xa) (.slice A10 n10 c10)
  have r1 := p1.store xa A10 n10 c10
  have r2 := BoxW.grown (Q2.out.below hb1) o1 (by omega)
  have r3 := BoxW.grown (Q3.out.below hb1) o1 (by omega)
  have ex := cx.far o1 p1.noLimb
  have ey := (hr2.below hb1).far o1 p1.noLimb
  have hB1 := belowW (below_step hb1 hS) (Nat.le_refl _) (.int .i64 xa) (.slice A10 n10 c10)
  clear hc1
  have hc1 := p1.cells
  have hf1 := p1.free
  have hc2 := r2.cells
  have HF := hide (And.intro r1 (And.intro r2 (And.intro r3 (And.intro ex (And.intro ey hB1)))))
  clear r1 r2 r3 ex ey hB1 p1 o1 cx hr1 hr2 hb1 hxa Q1 Q2 Q3 hS HW
  go_wp2_with fail
  obtain ⟨r1, r2, r3, ex, ey, hB1⟩ := HF.out
  clear HF hc1 hf1 hc2
  obtain ⟨V, hV⟩ : ∃ V, V = (w1.setCell ⟨w.heap.size, 0, none⟩ (.int .i64 xa)).setCell ⟨w.heap.size, 1, none⟩ (.slice A10 n10 c10) := ⟨_, rfl⟩
  rw [← hV] at r1 r2 r3 ex ey hB1
  rw [← hV]
  clear hV
  refine (rleast_any z2 A2 n2 c2 y L V ey (by omega)).mono ?_
  rintro e w2 ⟨A12, n12, c12, rfl, cy, hb2⟩
  rw [hya]
  clear hya
  have p2 := r2.below hb2
  have o2 := onlyW w2 (w.heap.size + 1) (.int .i64 ya) (.slice A12 n12 c12)
  have t8 := p2.store ya A12 n12 c12
  have t7 := BoxW.grown (r1.below hb2) o2 (by omega)
  have t3 := BoxW.grown (r3.below hb2) o2 (by omega)
  have gx := (ex.below hb2).far o2 p2.noLimb
  have gy := cy.far o2 p2.noLimb
  have hB := belowW (below_step hb2 hB1) (by omega : w.heap.size ≤ w.heap.size + 1) (.int .i64 ya) (.slice A12 n12 c12)
  have hc2 := p2.cells
  have hf2 := p2.free
  have HF := hide (And.intro t7 (And.intro t8 (And.intro t3 (And.intro gx (And.intro gy hB)))))
  clear t7 t8 t3 gx gy hB p2 o2 cy r1 r2 r3 ex ey hb2 hB1
  go_upto_region 3 with (fail)
  obtain ⟨t7, t8, t3, cx, cy, hB⟩ := HF.out
  clear HF hc2 hf2
  obtain ⟨V9, hV⟩ : ∃ V9, V9 = (w2.setCell ⟨w.heap.size + 1, 0, none⟩ (.int .i64 ya)).setCell ⟨w.heap.size + 1, 1, none⟩ (.slice A12 n12 c12) := ⟨_, rfl⟩
  rw [← hV] at t7 t8 t3 cx cy hB
  rw [← hV]
  clear hV
  have T7 := hide t7
  have T8 := hide t8
  have T3 := hide t3
  have hcx7 := t7.cells
  have hcx8 := t8.cells
  have hcg := t3.cells
  have hfg := t3.free
  have hz3 := t3.2
  clear t7 t8 t3
  have hxr : 0 ≤ xa ∧ xa ≤ 4611686018427387904 := by have := HX1.out; have h5 := cx.can; unfold CanW at h5; have hi : infW = 4611686018427387904 := rfl; omega
  have hyr : 0 ≤ ya ∧ ya ≤ 4611686018427387904 := by have := HY1.out; have h5 := cy.can; unfold CanW at h5; have hi : infW = 4611686018427387904 := rfl; omega
  go_wp2_with fail
  refine (rminPlus_mul xa ya _).mono ?_
  rintro e w9 ⟨rfl, hb9⟩
  have t7 := T7.out.below hb9
  have t8 := T8.out.below hb9
  have t3 := T3.out.below hb9
  have ux := cx.below hb9
  have uy := cy.below hb9
  have uB := below_step hb9 hB
  clear hcx7 hcx8 hcg hfg T7 T8 T3 cx cy hB hb9
  have cx := ux
  have cy := uy
  have hB := uB
  clear ux uy uB
  have hcx7 := t7.cells
  have hcx8 := t8.cells
  have hcg := t3.cells
  have hfg := t3.free
  have T7 := hide t7
  have T8 := hide t8
  have T3 := hide t3
  clear t7 t8 t3
  have hm : cMul xa ya = 4611686018427387904 := by have := HX1.out; have := HY1.out; have := HL.out; have hi : infW = 4611686018427387904 := rfl; unfold cMul cCost; omega
  rw [hm]
  go_wp2_with fail
  refine (none_any _ (K + L)).mono ?_
  rintro e w8 ⟨A9, n9, c9, rfl, h9, hb9⟩
  have q9 := T3.out.below hb9
  clear hcg hfg hcx7 hcx8
  have hcg := q9.cells
  have hfg := q9.free
  go_wp2
  exact bodyPost_ret (v := .agg #[.int .i64 infW, .slice A9 n9 c9]) (by simp [results, Try.results40, go_sem, hcg]) rfl ⟨A9, n9, c9, by rw [HA.out], by rw [HA.out]; exact h9.far (onlyW _ _ _ _) q9.noLimb, belowW (below_step hb9 hB) (by omega) _ _⟩

set_option maxHeartbeats 8000000 in
theorem rleastMul2 (z : Int) (A : Option Addr) (n c : Nat) (x : LW) (K : Nat) (z2 : Int) (A2 : Option Addr) (n2 c2 : Nat) (y : LW) (L : Nat) (w : World) (h : RawW w z A n c x K) (h' : RawW w z2 A2 n2 c2 y L) (hK : K ≤ 900) (hL : L ≤ 900) (hge : ¬ infW ≤ x.1 + y.1) :
    Calls Try.prog 40 #[.agg #[.int .i64 z, .slice A n c], .agg #[.int .i64 z2, .slice A2 n2 c2]] w (RetLW (mulW x y) (K + L) w) := by
  have HA : Hid (mulW x y = (x.1 + y.1, x.2 * y.2)) := if_neg hge
  have HL := hide hge
  clear hge
  obtain ⟨W, hW, hS, q1, q2, q3⟩ := boxR w z A n c z2 A2 n2 c2
  have hr1 := h.below hS
  have hr2 := h'.below hS
  have HW := hide hW
  have Q2 := hide q2
  have Q3 := hide q3
  have Q1 := hide q1
  have hc1 := q1.cells
  clear hW q1 q2 q3 h h'
  go_enter Try.func40, Try.ntmps40
  go_wp2_with fail
  rw [← HW.out]
  refine (rleast_any z A n c x K W hr1 (by omega)).mono ?_
  rintro e w1 ⟨A10, n10, c10, rfl, cx, hb1⟩
  obtain ⟨xa, hxa⟩ : ∃ xa, x.1 = xa := ⟨_, rfl⟩
  obtain ⟨ya, hya⟩ : ∃ ya, y.1 = ya := ⟨_, rfl⟩
  rw [hxa]
  have HX1 := hide hxa
  have HY1 := hide hya
  have p1 := Q1.out.below hb1
  have o1 := onlyW w1 w.heap.size (.int .i64 xa) (.slice A10 n10 c10)
  have r1 := p1.store xa A10 n10 c10
  have r2 := BoxW.grown (Q2.out.below hb1) o1 (by omega)
  have r3 := BoxW.grown (Q3.out.below hb1) o1 (by omega)
  have ex := cx.far o1 p1.noLimb
  have ey := (hr2.below hb1).far o1 p1.noLimb
  have hB1 := belowW (below_step hb1 hS) (Nat.le_refl _) (.int .i64 xa) (.slice A10 n10 c10)
  clear hc1
  have hc1 := p1.cells
  have hf1 := p1.free
  have hc2 := r2.cells
  have HF := hide (And.intro r1 (And.intro r2 (And.intro r3 (And.intro ex (And.intro ey hB1)))))
  clear r1 r2 r3 ex ey hB1 p1 o1 cx hr1 hr2 hb1 hxa Q1 Q2 Q3 hS HW
  go_wp2_with fail
  obtain ⟨r1, r2, r3, ex, ey, hB1⟩ := HF.out
  clear HF hc1 hf1 hc2
  obtain ⟨V, hV⟩ : ∃ V, V = (w1.setCell ⟨w.heap.size, 0, none⟩ (.int .i64 xa)).setCell ⟨w.heap.size, 1, none⟩ (.slice A10 n10 c10) := ⟨_, rfl⟩
  rw [← hV] at r1 r2 r3 ex ey hB1
  rw [← hV]
  clear hV
  refine (rleast_any z2 A2 n2 c2 y L V ey (by omega)).mono ?_
  rintro e w2 ⟨A12, n12, c12, rfl, cy, hb2⟩
  rw [hya]
  clear hya
  have p2 := r2.below hb2
  have o2 := onlyW w2 (w.heap.size + 1) (.int .i64 ya) (.slice A12 n12 c12)
  have t8 := p2.store ya A12 n12 c12
  have t7 := BoxW.grown (r1.below hb2) o2 (by omega)
  have t3 := BoxW.grown (r3.below hb2) o2 (by omega)
  have gx := (ex.below hb2).far o2 p2.noLimb
  have gy := cy.far o2 p2.noLimb
  have hB := belowW (below_step hb2 hB1) (by omega : w.heap.size ≤ w.heap.size + 1) (.int .i64 ya) (.slice A12 n12 c12)
  have hc2 := p2.cells
  have hf2 := p2.free
  have HF := hide (And.intro t7 (And.intro t8 (And.intro t3 (And.intro gx (And.intro gy hB)))))
  clear t7 t8 t3 gx gy hB p2 o2 cy r1 r2 r3 ex ey hb2 hB1
  go_upto_region 3 with (fail)
  obtain ⟨t7, t8, t3, cx, cy, hB⟩ := HF.out
  clear HF hc2 hf2
  obtain ⟨V9, hV⟩ : ∃ V9, V9 = (w2.setCell ⟨w.heap.size + 1, 0, none⟩ (.int .i64 ya)).setCell ⟨w.heap.size + 1, 1, none⟩ (.slice A12 n12 c12) := ⟨_, rfl⟩
  rw [← hV] at t7 t8 t3 cx cy hB
  rw [← hV]
  clear hV
  have T7 := hide t7
  have T8 := hide t8
  have T3 := hide t3
  have hcx7 := t7.cells
  have hcx8 := t8.cells
  have hcg := t3.cells
  have hfg := t3.free
  have hz3 := t3.2
  clear t7 t8 t3
  have hxr : 0 ≤ xa ∧ xa ≤ 4611686018427387904 := by have := HX1.out; have h5 := cx.can; unfold CanW at h5; have hi : infW = 4611686018427387904 := rfl; omega
  have hyr : 0 ≤ ya ∧ ya ≤ 4611686018427387904 := by have := HY1.out; have h5 := cy.can; unfold CanW at h5; have hi : infW = 4611686018427387904 := rfl; omega
  go_wp2_with fail
  refine (rminPlus_mul xa ya _).mono ?_
  rintro e w9 ⟨rfl, hb9⟩
  have t7 := T7.out.below hb9
  have t8 := T8.out.below hb9
  have t3 := T3.out.below hb9
  have ux := cx.below hb9
  have uy := cy.below hb9
  have uB := below_step hb9 hB
  clear hcx7 hcx8 hcg hfg T7 T8 T3 cx cy hB hb9
  have cx := ux
  have cy := uy
  have hB := uB
  clear ux uy uB
  have hcx7 := t7.cells
  have hcx8 := t8.cells
  have hcg := t3.cells
  have hfg := t3.free
  have T7 := hide t7
  have T8 := hide t8
  have T3 := hide t3
  clear t7 t8 t3
  obtain ⟨mm, hmm⟩ : ∃ mm, mm = xa + ya := ⟨_, rfl⟩
  have hm : cMul xa ya = mm := by have := HX1.out; have := HY1.out; have := HL.out; have hi : infW = 4611686018427387904 := rfl; unfold cMul cCost; omega
  rw [hm]
  clear hm
  have HM := hide hmm
  clear hmm
  have hl4 : (mm == 4611686018427387904) = false := by have := HX1.out; have := HY1.out; have := HL.out; have hi : infW = 4611686018427387904 := rfl; have := HM.out; simp; omega
  go_wp2_with fail
  refine (rmul2 cx.num cy.num (by have := cx.hn; omega) (by have := cy.hn; omega)).mono ?_
  rintro e w8 ⟨A29, n29, c29, rfl, h29, hb9, k29⟩
  simp only [val_limbs] at h29
  have k30 : n29 ≤ K + L := by have := cx.hn; have := cy.hn; omega
  have q9 := T3.out.below hb9
  have hb8 := below_step hb9 hB
  clear hcg hfg hcx7 hcx8
  have hcg := q9.cells
  have hfg := q9.free
  go_wp2
  exact bodyPost_ret (v := .agg #[.int .i64 mm, .slice A29 n29 c29]) (by simp [results, Try.results40, go_sem, hcg]) rfl ⟨A29, n29, c29, by rw [HA.out, HX1.out, HY1.out, HM.out], ⟨by rw [HA.out]; exact Rd.farW h29 (onlyW _ _ _ _) q9.noLimb, k30, mulW_can cx.can cy.can⟩, belowW hb8 (by omega) _ _⟩

set_option maxHeartbeats 8000000 in
theorem rleastMul (z : Int) (A : Option Addr) (n c : Nat) (x : LW) (K : Nat) (z2 : Int) (A2 : Option Addr) (n2 c2 : Nat) (y : LW) (L : Nat) (w : World) (h : RawW w z A n c x K) (h' : RawW w z2 A2 n2 c2 y L) (hK : K ≤ 900) (hL : L ≤ 900) :
    Calls Try.prog 40 #[.agg #[.int .i64 z, .slice A n c], .agg #[.int .i64 z2, .slice A2 n2 c2]] w (RetLW (mulW x y) (K + L) w) := by
  by_cases h1 : infW ≤ x.1 + y.1
  · exact rleastMul1 z A n c x K z2 A2 n2 c2 y L w h h' hK hL h1
  · exact rleastMul2 z A n c x K z2 A2 n2 c2 y L w h h' hK hL h1

theorem boxR2 (w : World) (z : Int) (A : Option Addr) (n c : Nat) (z2 : Int) (A2 : Option Addr) (n2 c2 : Nat) :
    ∃ W, W = (w.alloc (.cells #[.int .i64 z, .slice A n c] 51)).alloc (.cells #[.int .i64 z2, .slice A2 n2 c2] 51) ∧ Below w.heap.size w W ∧
      BoxW W w.heap.size z A n c ∧ BoxW W (w.heap.size + 1) z2 A2 n2 c2 := by
  have b1 := below_alloc w (.cells #[.int .i64 z, .slice A n c] 51)
  have b2 := below_alloc (w.alloc (.cells #[.int .i64 z, .slice A n c] 51)) (.cells #[.int .i64 z2, .slice A2 n2 c2] 51)
  have q1 := (BoxW.new w z A n c).below b2
  have q2 := BoxW.new (w.alloc (.cells #[.int .i64 z, .slice A n c] 51)) z2 A2 n2 c2
  refine ⟨_, rfl, below_step b2 b1, q1, ?_⟩
  have e : (w.alloc (.cells #[.int .i64 z, .slice A n c] 51)).heap.size = w.heap.size + 1 := by simp
  rw [e] at q2; exact q2

set_option maxHeartbeats 4000000 in
theorem rsameLeast (A : Option Addr) (n c : Nat) (x : LW) (K : Nat) (A2 : Option Addr) (n2 c2 : Nat) (y : LW) (L : Nat) (w : World) (h : CanLW w A n c x K) (h' : CanLW w A2 n2 c2 y L) :
    Calls Try.prog 18 #[.agg #[.int .i64 x.1, .slice A n c], .agg #[.int .i64 y.1, .slice A2 n2 c2]] w (Makes (.bool (decide (x = y))) w) := by
  have HN := hide (@same_ne x y)
  have HS := hide (@same_eq x y)
  obtain ⟨W, hW, hS, q1, q2⟩ := boxR2 w x.1 A n c y.1 A2 n2 c2
  have hr1 := h.below hS
  have hr2 := h'.below hS
  obtain ⟨xa, hxa⟩ : ∃ xa, x.1 = xa := ⟨_, rfl⟩
  obtain ⟨ya, hya⟩ : ∃ ya, y.1 = ya := ⟨_, rfl⟩
  rw [hxa, hya] at hW
  rw [hxa] at q1
  rw [hya] at q2
  rw [hxa, hya]
  have HX1 := hide hxa
  have HY1 := hide hya
  have HW := hide hW
  have hc1 := q1.cells
  have hc2 := q2.cells
  clear hW q1 q2 h h' hxa hya
  by_cases he : xa = ya
  · have hl : (xa == ya) = true := by simp; omega
    have HE := hide (HS.out (by rw [HX1.out, HY1.out]; exact he))
    clear HN HS he
    go_enter Try.func18, Try.ntmps18
    go_wp2_with fail
    rw [← HW.out]
    refine (rsame_any _ _ _ _ _ _ _ _ _ hr1.num hr2.num).mono ?_
    rw [HE.out]
    rintro e w9 ⟨rfl, hb9⟩
    go_wp2
    go_ret
    exact ⟨by rfl, below_step hb9 hS⟩
  · have hl : (xa == ya) = false := by simp; omega
    have HE := hide (HN.out (by rw [HX1.out, HY1.out]; exact he))
    clear HN HS he
    go_enter Try.func18, Try.ntmps18
    go_wp2
    go_ret
    exact ⟨by rw [HE.out]; rfl, by rw [← HW.out]; exact hS⟩
end Go.Proofs.Ytjadgomakoaibaa
