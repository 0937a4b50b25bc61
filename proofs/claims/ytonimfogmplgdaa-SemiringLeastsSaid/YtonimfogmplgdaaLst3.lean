/- The walk of the product of least weights. -/
import Derived.Test.YtonimfogmplgdaaLst2
import Derived.Test.YtonimfogmplgdaaCosts
namespace Go.Proofs.Ytonimfogmplgdaa
open Go.RowKit

set_option maxHeartbeats 8000000 in
theorem leasts_mul1 (z : Int) (A : Option Addr) (n c : Nat) (x : LW) (K : Nat) (z2 : Int) (A2 : Option Addr) (n2 c2 : Nat) (y : LW) (L : Nat) (w : World) (h : RawW w z A n c x K) (h' : RawW w z2 A2 n2 c2 y L) (hK : K ≤ 900) (hL : L ≤ 900) (hge : infW ≤ x.1 + y.1) :
    Calls Try.prog 14 #[.agg #[], .agg #[.int .i64 z, .slice A n c], .agg #[.int .i64 z2, .slice A2 n2 c2]] w (RetLW (mulW x y) (K + L) w) := by
  have HA : Hid (mulW x y = (infW, 0)) := if_pos hge
  have HL := hide hge
  clear hge
  obtain ⟨W0, hW0, hS0, q1, q2⟩ := boxesW w (.cells #[] 27) z A n c z2 A2 n2 c2
  have hz0 : W0.heap.size = w.heap.size + 1 + 1 + 1 := by rw [hW0]; simp
  have q3 := BoxW.new W0 0 none 0 0
  rw [hz0] at q3
  have hba := below_alloc W0 (.cells #[.int .i64 0, .slice none 0 0] 25)
  have Q1 := hide (q1.below hba)
  have Q2 := hide (q2.below hba)
  have hS := below_step hba hS0
  have hr1 := h.below hS
  have hr2 := h'.below hS
  have HW0 := hide hW0
  obtain ⟨W, hW⟩ : ∃ W, W = W0.alloc (.cells #[.int .i64 0, .slice none 0 0] 25) := ⟨_, rfl⟩
  rw [← hW] at Q1 Q2 q3 hS hr1 hr2
  have Q3 := hide q3
  have HW := hide hW
  clear hW hW0 hba q1 q2 q3 h h' hS0 hz0
  go_enter Try.func14, Try.ntmps14
  go_wp2_with fail
  rw [← HW0.out, ← HW.out]
  refine wp_region_tab2 6 30 (fun i => i == 4 || i == 5) [IsV (.agg #[.int .i64 z, .slice A n c]), IsLW x K, IsV (.agg #[.int .i64 z2, .slice A2 n2 c2]), IsLW y L, IsBoxW W.heap.size, IsBoxW W.heap.size] (From W) (by kernel_rfl) (by kernel_rfl) (by kernel_rfl) rfl From.lasting' (From.drew (From.refl W)) ?_
  simp only [List.take_succ_cons, List.drop_succ_cons, List.take_zero, List.drop_zero]
  refine Tab2.cons IsV.lasting (fun h9 => absurd h9 (by decide)) (fun wx hx hd => ?_) (fun v10 => ?_)
  · skip
    clear hd
    intro KK hK
    replace hK := Shut.weak hK (by decide)
    have hcell := (Q1.out.later hx).cells
    go_simp
    exact hK.out _ _ rfl (Below.refl _ _)
  simp only [Act.put, List.setIfInBounds_toArray, List.set_cons_zero, List.set_cons_succ]
  refine Tab2.cons IsLW.lasting (fun h9 => absurd h9 (by decide)) (fun wx hx hd => ?_) (fun v11 => ?_)
  · skip
    have e10 : v10 = _ := (hd _ (.head _) (by kernel_rfl) : (IsV (.agg #[.int .i64 z, .slice A n c])) v10 wx)
    subst e10
    clear hd
    intro KK hK
    replace hK := Shut.weak hK (by decide)
    go_simp
    refine (least_any _ _ _ _ x K _ (hr1.below hx.out) (by omega)).mono ?_
    rintro e w' ⟨A', n', c', rfl, hc', hb'⟩
    exact hK.out _ _ ⟨A', n', c', rfl, hc'⟩ hb'
  simp only [Act.put, List.setIfInBounds_toArray, List.set_cons_zero, List.set_cons_succ]
  refine Tab2.cons IsV.lasting (fun h9 => absurd h9 (by decide)) (fun wx hx hd => ?_) (fun v12 => ?_)
  · skip
    clear hd
    intro KK hK
    replace hK := Shut.weak hK (by decide)
    have hcell := (Q2.out.later hx).cells
    go_simp
    exact hK.out _ _ rfl (Below.refl _ _)
  simp only [Act.put, List.setIfInBounds_toArray, List.set_cons_zero, List.set_cons_succ]
  refine Tab2.cons IsLW.lasting (fun h9 => absurd h9 (by decide)) (fun wx hx hd => ?_) (fun v13 => ?_)
  · skip
    have e12 : v12 = _ := (hd _ (.head _) (by kernel_rfl) : (IsV (.agg #[.int .i64 z2, .slice A2 n2 c2])) v12 wx)
    subst e12
    clear hd
    intro KK hK
    replace hK := Shut.weak hK (by decide)
    go_simp
    refine (least_any _ _ _ _ y L _ (hr2.below hx.out) (by omega)).mono ?_
    rintro e w' ⟨A', n', c', rfl, hc', hb'⟩
    exact hK.out _ _ ⟨A', n', c', rfl, hc'⟩ hb'
  simp only [Act.put, List.setIfInBounds_toArray, List.set_cons_zero, List.set_cons_succ]
  refine Tab2.cons IsBoxW.lasting (fun _ => IsBoxW.ptr) (fun wx hx hd => ?_) (fun v7 => ?_)
  · skip
    clear hd
    intro KK hK
    go_simp
    exact hK.out _ _ ⟨⟨_, hx.out.size, rfl, BoxW.new _ _ _ _ _⟩, fun _ => rfl⟩ (below_alloc _ _)
  simp only [Act.put, List.setIfInBounds_toArray, List.set_cons_zero, List.set_cons_succ]
  refine Tab2.cons IsBoxW.lasting (fun _ => IsBoxW.ptr) (fun wx hx hd => ?_) (fun v8 => ?_)
  · skip
    clear hd
    intro KK hK
    go_simp
    exact hK.out _ _ ⟨⟨_, hx.out.size, rfl, BoxW.new _ _ _ _ _⟩, fun _ => rfl⟩ (below_alloc _ _)
  simp only [Act.put, List.setIfInBounds_toArray, List.set_cons_zero, List.set_cons_succ]
  refine Tab2.nil fun wx hx hd hdif => ?_
  have hne : v7 ≠ v8 := hdif _ (.tail _ (.head _)) _ (.head _) rfl rfl (show (4 : Nat) ≠ 5 by decide)
  obtain ⟨A11, n11, c11, rfl, h11⟩ := (hd _ (.tail _ (.tail _ (.tail _ (.tail _ (.head _))))) : (IsLW x K) v11 wx)
  obtain ⟨A13, n13, c13, rfl, h13⟩ := (hd _ (.tail _ (.tail _ (.head _))) : (IsLW y L) v13 wx)
  obtain ⟨g7, j7, rfl, h7⟩ := (hd _ (.tail _ (.head _)) : (IsBoxW W.heap.size) v7 wx)
  obtain ⟨g8, j8, rfl, h8⟩ := (hd _ (.head _) : (IsBoxW W.heap.size) v8 wx)
  clear hd hdif
  have hx7 := h7.cells
  have hf7 := h7.free
  have hx8 := h8.cells
  have hf8 := h8.free
  have hg : g7 ≠ g8 := fun h9 => hne (by rw [h9])
  have hg' : g8 ≠ g7 := fun h9 => hg h9.symm
  clear hne
  obtain ⟨xa, hxa⟩ : ∃ xa, x.1 = xa := ⟨_, rfl⟩
  obtain ⟨ya, hya⟩ : ∃ ya, y.1 = ya := ⟨_, rfl⟩
  rw [hxa, hya]
  have HX1 := hide hxa
  have HY1 := hide hya
  clear hxa hya
  have o7 := onlyW wx g7 (.int .i64 xa) (.slice A11 n11 c11)
  have p7 := h7.store xa A11 n11 c11
  have p8 := BoxW.grown (g' := g7) h8 o7 hg'
  have o8 := onlyW ((wx.setCell ⟨g7, 0, none⟩ (.int .i64 xa)).setCell ⟨g7, 1, none⟩ (.slice A11 n11 c11)) g8 (.int .i64 ya) (.slice A13 n13 c13)
  have t7 := BoxW.grown (g' := g8) p7 o8 hg
  have t8 := p8.store ya A13 n13 c13
  have t3 := BoxW.grown (g' := g8) (BoxW.grown (g' := g7) (Q3.out.later hx) o7 (by have := Q3.out.2; omega)) o8 (by have := Q3.out.2; omega)
  have cx := (h11.far o7 h7.noLimb).far o8 p8.noLimb
  have cy := (h13.far o7 h7.noLimb).far o8 p8.noLimb
  have hWs := hS.size
  have hB := belowW (g := g8) (belowW (g := g7) (below_step hx.out hS) (by omega) (.int .i64 xa) (.slice A11 n11 c11)) (by omega) (.int .i64 ya) (.slice A13 n13 c13)
  have HF := hide (And.intro t7 (And.intro t8 (And.intro t3 (And.intro cx (And.intro cy hB)))))
  clear t7 t8 t3 cx cy hB o7 p7 p8 o8 h7 h8 h11 h13 hr1 hr2 hS hx hWs HW HW0 Q1 Q2 Q3
  go_upto_region 2 with (fail)
  obtain ⟨t7, t8, t3, cx, cy, hB⟩ := HF.out
  clear HF
  obtain ⟨V, hV⟩ : ∃ V, V = (((wx.setCell ⟨g7, 0, none⟩ (.int .i64 xa)).setCell ⟨g7, 1, none⟩ (.slice A11 n11 c11)).setCell ⟨g8, 0, none⟩ (.int .i64 ya)).setCell ⟨g8, 1, none⟩ (.slice A13 n13 c13) := ⟨_, rfl⟩
  rw [← hV] at t7 t8 t3 cx cy hB
  try rw [← hV]
  clear hx7 hf7 hx8 hf8 hV
  have T7 := hide t7
  have T8 := hide t8
  have T3 := hide t3
  have hcx7 := t7.cells
  have hcx8 := t8.cells
  have hcg := t3.cells
  have hfg := t3.free
  have hz3 := t3.2
  clear t7 t8 t3 hg' hg
  have hxr : 0 ≤ xa ∧ xa ≤ 4611686018427387904 := by have := HX1.out; have h5 := cx.can; unfold CanW at h5; have hi : infW = 4611686018427387904 := rfl; omega
  have hyr : 0 ≤ ya ∧ ya ≤ 4611686018427387904 := by have := HY1.out; have h5 := cy.can; unfold CanW at h5; have hi : infW = 4611686018427387904 := rfl; omega
  go_wp2_with fail
  refine (capped_any xa ya _ hxr hyr).mono ?_
  rintro e w9 ⟨rfl, hb9⟩
  have t7 := T7.out.below hb9
  have t8 := T8.out.below hb9
  have t3 := T3.out.below hb9
  have ux := cx.below hb9
  have uy := cy.below hb9
  have uB := below_step hb9 hB
  clear hcx7 hcx8 hcg hfg T7 T8 T3 cx cy hB hb9
  have cx := ux
  have cy := uy
  have hB := uB
  clear ux uy uB
  have hcx7 := t7.cells
  have hcx8 := t8.cells
  have hcg := t3.cells
  have hfg := t3.free
  have T7 := hide t7
  have T8 := hide t8
  have T3 := hide t3
  clear t7 t8 t3
  have hm : min 4611686018427387904 (xa + ya) = 4611686018427387904 := by have := HX1.out; have := HY1.out; have := HL.out; have hi : infW = 4611686018427387904 := rfl; omega
  rw [hm]
  go_wp2_with fail
  refine (never_any _ (K + L)).mono ?_
  rintro e w8 ⟨A9, n9, c9, rfl, h9, hb9⟩
  have q9 := T3.out.below hb9
  clear hcg hfg hcx7 hcx8
  have hcg := q9.cells
  have hfg := q9.free
  go_wp2
  exact bodyPost_ret (v := .agg #[.int .i64 infW, .slice A9 n9 c9]) (by simp [results, Try.results14, go_sem, hcg]) rfl ⟨A9, n9, c9, by rw [HA.out], by rw [HA.out]; exact h9.far (onlyW _ _ _ _) q9.noLimb, belowW (below_step hb9 hB) (by omega) _ _⟩

set_option maxHeartbeats 8000000 in
theorem leasts_mul2 (z : Int) (A : Option Addr) (n c : Nat) (x : LW) (K : Nat) (z2 : Int) (A2 : Option Addr) (n2 c2 : Nat) (y : LW) (L : Nat) (w : World) (h : RawW w z A n c x K) (h' : RawW w z2 A2 n2 c2 y L) (hK : K ≤ 900) (hL : L ≤ 900) (hge : ¬ infW ≤ x.1 + y.1) :
    Calls Try.prog 14 #[.agg #[], .agg #[.int .i64 z, .slice A n c], .agg #[.int .i64 z2, .slice A2 n2 c2]] w (RetLW (mulW x y) (K + L) w) := by
  have HA : Hid (mulW x y = (x.1 + y.1, x.2 * y.2)) := if_neg hge
  have HL := hide hge
  clear hge
  obtain ⟨W0, hW0, hS0, q1, q2⟩ := boxesW w (.cells #[] 27) z A n c z2 A2 n2 c2
  have hz0 : W0.heap.size = w.heap.size + 1 + 1 + 1 := by rw [hW0]; simp
  have q3 := BoxW.new W0 0 none 0 0
  rw [hz0] at q3
  have hba := below_alloc W0 (.cells #[.int .i64 0, .slice none 0 0] 25)
  have Q1 := hide (q1.below hba)
  have Q2 := hide (q2.below hba)
  have hS := below_step hba hS0
  have hr1 := h.below hS
  have hr2 := h'.below hS
  have HW0 := hide hW0
  obtain ⟨W, hW⟩ : ∃ W, W = W0.alloc (.cells #[.int .i64 0, .slice none 0 0] 25) := ⟨_, rfl⟩
  rw [← hW] at Q1 Q2 q3 hS hr1 hr2
  have Q3 := hide q3
  have HW := hide hW
  clear hW hW0 hba q1 q2 q3 h h' hS0 hz0
  go_enter Try.func14, Try.ntmps14
  go_wp2_with fail
  rw [← HW0.out, ← HW.out]
  refine wp_region_tab2 6 30 (fun i => i == 4 || i == 5) [IsV (.agg #[.int .i64 z, .slice A n c]), IsLW x K, IsV (.agg #[.int .i64 z2, .slice A2 n2 c2]), IsLW y L, IsBoxW W.heap.size, IsBoxW W.heap.size] (From W) (by kernel_rfl) (by kernel_rfl) (by kernel_rfl) rfl From.lasting' (From.drew (From.refl W)) ?_
  simp only [List.take_succ_cons, List.drop_succ_cons, List.take_zero, List.drop_zero]
  refine Tab2.cons IsV.lasting (fun h9 => absurd h9 (by decide)) (fun wx hx hd => ?_) (fun v10 => ?_)
  · skip
    clear hd
    intro KK hK
    replace hK := Shut.weak hK (by decide)
    have hcell := (Q1.out.later hx).cells
    go_simp
    exact hK.out _ _ rfl (Below.refl _ _)
  simp only [Act.put, List.setIfInBounds_toArray, List.set_cons_zero, List.set_cons_succ]
  refine Tab2.cons IsLW.lasting (fun h9 => absurd h9 (by decide)) (fun wx hx hd => ?_) (fun v11 => ?_)
  · skip
    have e10 : v10 = _ := (hd _ (.head _) (by kernel_rfl) : (IsV (.agg #[.int .i64 z, .slice A n c])) v10 wx)
    subst e10
    clear hd
    intro KK hK
    replace hK := Shut.weak hK (by decide)
    go_simp
    refine (least_any _ _ _ _ x K _ (hr1.below hx.out) (by omega)).mono ?_
    rintro e w' ⟨A', n', c', rfl, hc', hb'⟩
    exact hK.out _ _ ⟨A', n', c', rfl, hc'⟩ hb'
  simp only [Act.put, List.setIfInBounds_toArray, List.set_cons_zero, List.set_cons_succ]
  refine Tab2.cons IsV.lasting (fun h9 => absurd h9 (by decide)) (fun wx hx hd => ?_) (fun v12 => ?_)
  · skip
    clear hd
    intro KK hK
    replace hK := Shut.weak hK (by decide)
    have hcell := (Q2.out.later hx).cells
    go_simp
    exact hK.out _ _ rfl (Below.refl _ _)
  simp only [Act.put, List.setIfInBounds_toArray, List.set_cons_zero, List.set_cons_succ]
  refine Tab2.cons IsLW.lasting (fun h9 => absurd h9 (by decide)) (fun wx hx hd => ?_) (fun v13 => ?_)
  · skip
    have e12 : v12 = _ := (hd _ (.head _) (by kernel_rfl) : (IsV (.agg #[.int .i64 z2, .slice A2 n2 c2])) v12 wx)
    subst e12
    clear hd
    intro KK hK
    replace hK := Shut.weak hK (by decide)
    go_simp
    refine (least_any _ _ _ _ y L _ (hr2.below hx.out) (by omega)).mono ?_
    rintro e w' ⟨A', n', c', rfl, hc', hb'⟩
    exact hK.out _ _ ⟨A', n', c', rfl, hc'⟩ hb'
  simp only [Act.put, List.setIfInBounds_toArray, List.set_cons_zero, List.set_cons_succ]
  refine Tab2.cons IsBoxW.lasting (fun _ => IsBoxW.ptr) (fun wx hx hd => ?_) (fun v7 => ?_)
  · skip
    clear hd
    intro KK hK
    go_simp
    exact hK.out _ _ ⟨⟨_, hx.out.size, rfl, BoxW.new _ _ _ _ _⟩, fun _ => rfl⟩ (below_alloc _ _)
  simp only [Act.put, List.setIfInBounds_toArray, List.set_cons_zero, List.set_cons_succ]
  refine Tab2.cons IsBoxW.lasting (fun _ => IsBoxW.ptr) (fun wx hx hd => ?_) (fun v8 => ?_)
  · skip
    clear hd
    intro KK hK
    go_simp
    exact hK.out _ _ ⟨⟨_, hx.out.size, rfl, BoxW.new _ _ _ _ _⟩, fun _ => rfl⟩ (below_alloc _ _)
  simp only [Act.put, List.setIfInBounds_toArray, List.set_cons_zero, List.set_cons_succ]
  refine Tab2.nil fun wx hx hd hdif => ?_
  have hne : v7 ≠ v8 := hdif _ (.tail _ (.head _)) _ (.head _) rfl rfl (show (4 : Nat) ≠ 5 by decide)
  obtain ⟨A11, n11, c11, rfl, h11⟩ := (hd _ (.tail _ (.tail _ (.tail _ (.tail _ (.head _))))) : (IsLW x K) v11 wx)
  obtain ⟨A13, n13, c13, rfl, h13⟩ := (hd _ (.tail _ (.tail _ (.head _))) : (IsLW y L) v13 wx)
  obtain ⟨g7, j7, rfl, h7⟩ := (hd _ (.tail _ (.head _)) : (IsBoxW W.heap.size) v7 wx)
  obtain ⟨g8, j8, rfl, h8⟩ := (hd _ (.head _) : (IsBoxW W.heap.size) v8 wx)
  clear hd hdif
  have hx7 := h7.cells
  have hf7 := h7.free
  have hx8 := h8.cells
  have hf8 := h8.free
  have hg : g7 ≠ g8 := fun h9 => hne (by rw [h9])
  have hg' : g8 ≠ g7 := fun h9 => hg h9.symm
  clear hne
  obtain ⟨xa, hxa⟩ : ∃ xa, x.1 = xa := ⟨_, rfl⟩
  obtain ⟨ya, hya⟩ : ∃ ya, y.1 = ya := ⟨_, rfl⟩
  rw [hxa, hya]
  have HX1 := hide hxa
  have HY1 := hide hya
  clear hxa hya
  have o7 := onlyW wx g7 (.int .i64 xa) (.slice A11 n11 c11)
  have p7 := h7.store xa A11 n11 c11
  have p8 := BoxW.grown (g' := g7) h8 o7 hg'
  have o8 := onlyW ((wx.setCell ⟨g7, 0, none⟩ (.int .i64 xa)).setCell ⟨g7, 1, none⟩ (.slice A11 n11 c11)) g8 (.int .i64 ya) (.slice A13 n13 c13)
  have t7 := BoxW.grown (g' := g8) p7 o8 hg
  have t8 := p8.store ya A13 n13 c13
  have t3 := BoxW.grown (g' := g8) (BoxW.grown (g' := g7) (Q3.out.later hx) o7 (by have := Q3.out.2; omega)) o8 (by have := Q3.out.2; omega)
  have cx := (h11.far o7 h7.noLimb).far o8 p8.noLimb
  have cy := (h13.far o7 h7.noLimb).far o8 p8.noLimb
  have hWs := hS.size
  have hB := belowW (g := g8) (belowW (g := g7) (below_step hx.out hS) (by omega) (.int .i64 xa) (.slice A11 n11 c11)) (by omega) (.int .i64 ya) (.slice A13 n13 c13)
  have HF := hide (And.intro t7 (And.intro t8 (And.intro t3 (And.intro cx (And.intro cy hB)))))
  clear t7 t8 t3 cx cy hB o7 p7 p8 o8 h7 h8 h11 h13 hr1 hr2 hS hx hWs HW HW0 Q1 Q2 Q3
  go_upto_region 2 with (fail)
  obtain ⟨t7, t8, t3, cx, cy, hB⟩ := HF.out
  clear HF
  obtain ⟨V, hV⟩ : ∃ V, V = (((wx.setCell ⟨g7, 0, none⟩ (.int .i64 xa)).setCell ⟨g7, 1, none⟩ (.slice A11 n11 c11)).setCell ⟨g8, 0, none⟩ (.int .i64 ya)).setCell ⟨g8, 1, none⟩ (.slice A13 n13 c13) := ⟨_, rfl⟩
  rw [← hV] at t7 t8 t3 cx cy hB
  try rw [← hV]
  clear hx7 hf7 hx8 hf8 hV
  have T7 := hide t7
  have T8 := hide t8
  have T3 := hide t3
  have hcx7 := t7.cells
  have hcx8 := t8.cells
  have hcg := t3.cells
  have hfg := t3.free
  have hz3 := t3.2
  clear t7 t8 t3 hg' hg
  have hxr : 0 ≤ xa ∧ xa ≤ 4611686018427387904 := by have := HX1.out; have h5 := cx.can; unfold CanW at h5; have hi : infW = 4611686018427387904 := rfl; omega
  have hyr : 0 ≤ ya ∧ ya ≤ 4611686018427387904 := by have := HY1.out; have h5 := cy.can; unfold CanW at h5; have hi : infW = 4611686018427387904 := rfl; omega
  go_wp2_with fail
  refine (capped_any xa ya _ hxr hyr).mono ?_
  rintro e w9 ⟨rfl, hb9⟩
  have t7 := T7.out.below hb9
  have t8 := T8.out.below hb9
  have t3 := T3.out.below hb9
  have ux := cx.below hb9
  have uy := cy.below hb9
  have uB := below_step hb9 hB
  clear hcx7 hcx8 hcg hfg T7 T8 T3 cx cy hB hb9
  have cx := ux
  have cy := uy
  have hB := uB
  clear ux uy uB
  have hcx7 := t7.cells
  have hcx8 := t8.cells
  have hcg := t3.cells
  have hfg := t3.free
  have T7 := hide t7
  have T8 := hide t8
  have T3 := hide t3
  clear t7 t8 t3
  obtain ⟨mm, hmm⟩ : ∃ mm, mm = xa + ya := ⟨_, rfl⟩
  have hm : min 4611686018427387904 (xa + ya) = mm := by have := HX1.out; have := HY1.out; have := HL.out; have hi : infW = 4611686018427387904 := rfl; omega
  rw [hm]
  clear hm
  have HM := hide hmm
  clear hmm
  have hl4 : (mm == 4611686018427387904) = false := by have := HX1.out; have := HY1.out; have := HL.out; have := HM.out; have hi : infW = 4611686018427387904 := rfl; simp; omega
  go_wp2_with fail
  have hb0 := below_alloc w9 (.cells #[.slice A11 n11 c11, .slice A13 n13 c13] 23)
  refine (lmulL (a := K) (b := L) (rdl_two2 rfl cx.num cy.num) (by rw [cx.num.len]; exact cx.hn) (by rw [cy.num.len]; exact cy.hn) (by omega) (by omega)).mono ?_
  rintro e w8 ⟨A29, n29, c29, rfl, h29, hb9, k29⟩
  simp only [val_limbs] at h29
  have q9 := (T3.out.below hb0).below hb9
  have hb8 := below_step hb9 (below_step hb0 hB)
  clear hcg hfg hcx7 hcx8
  have hcg := q9.cells
  have hfg := q9.free
  go_wp2
  exact bodyPost_ret (v := .agg #[.int .i64 mm, .slice A29 n29 c29]) (by simp [results, Try.results14, go_sem, hcg]) rfl ⟨A29, n29, c29, by rw [HA.out, HX1.out, HY1.out, HM.out], ⟨by rw [HA.out]; exact Rd.farW h29 (onlyW _ _ _ _) q9.noLimb, k29, mulW_can cx.can cy.can⟩, belowW hb8 (by omega) _ _⟩

set_option maxHeartbeats 8000000 in
theorem leasts_mul (z : Int) (A : Option Addr) (n c : Nat) (x : LW) (K : Nat) (z2 : Int) (A2 : Option Addr) (n2 c2 : Nat) (y : LW) (L : Nat) (w : World) (h : RawW w z A n c x K) (h' : RawW w z2 A2 n2 c2 y L) (hK : K ≤ 900) (hL : L ≤ 900) :
    Calls Try.prog 14 #[.agg #[], .agg #[.int .i64 z, .slice A n c], .agg #[.int .i64 z2, .slice A2 n2 c2]] w (RetLW (mulW x y) (K + L) w) := by
  by_cases h1 : infW ≤ x.1 + y.1
  · exact leasts_mul1 z A n c x K z2 A2 n2 c2 y L w h h' hK hL h1
  · exact leasts_mul2 z A n c x K z2 A2 n2 c2 y L w h h' hK hL h1

end Go.Proofs.Ytonimfogmplgdaa
