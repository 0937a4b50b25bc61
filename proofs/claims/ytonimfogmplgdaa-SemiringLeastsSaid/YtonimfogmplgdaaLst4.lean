/- The walk of the comparison of least weights. -/
import Derived.Test.YtonimfogmplgdaaLst2
import Derived.Test.YtonimfogmplgdaaEqual
namespace Go.Proofs.Ytonimfogmplgdaa
open Go.RowKit
theorem same_ne {x y : LW} (h : x.1 ≠ y.1) : decide (x = y) = false := decide_eq_false fun e => h (by rw [e])
theorem same_eq {x y : LW} (h : x.1 = y.1) : decide (limbs x.2 = limbs y.2) = decide (x = y) := by
  refine decide_eq_decide.mpr ⟨fun e => Prod.ext h ?_, fun e => by rw [e]⟩
  have := congrArg val e
  rwa [val_limbs, val_limbs] at this

set_option maxHeartbeats 8000000 in
theorem leasts_same1 (z : Int) (A : Option Addr) (n c : Nat) (x : LW) (K : Nat) (z2 : Int) (A2 : Option Addr) (n2 c2 : Nat) (y : LW) (L : Nat) (w : World) (h : RawW w z A n c x K) (h' : RawW w z2 A2 n2 c2 y L) (hK : K ≤ 900) (hL : L ≤ 900) (hne1 : x.1 ≠ y.1) :
    Calls Try.prog 16 #[.agg #[], .agg #[.int .i64 z, .slice A n c], .agg #[.int .i64 z2, .slice A2 n2 c2]] w (Makes (.bool (decide (x = y))) w) := by
  have HE := hide (same_ne hne1)
  have HL := hide hne1
  clear hne1
  obtain ⟨W, hW, hS, q1, q2⟩ := boxesW w (.cells #[] 27) z A n c z2 A2 n2 c2
  have Q1 := hide q1
  have Q2 := hide q2
  have hr1 := h.below hS
  have hr2 := h'.below hS
  have HW := hide hW
  clear hW q1 q2 h h'
  go_enter Try.func16, Try.ntmps16
  go_wp2_with fail
  rw [← HW.out]
  refine wp_region_tab2 6 25 (fun i => i == 4 || i == 5) [IsV (.agg #[.int .i64 z, .slice A n c]), IsLW x K, IsV (.agg #[.int .i64 z2, .slice A2 n2 c2]), IsLW y L, IsBoxW W.heap.size, IsBoxW W.heap.size] (From W) (by kernel_rfl) (by kernel_rfl) (by kernel_rfl) rfl From.lasting' (From.drew (From.refl W)) ?_
  simp only [List.take_succ_cons, List.drop_succ_cons, List.take_zero, List.drop_zero]
  refine Tab2.cons IsV.lasting (fun h9 => absurd h9 (by decide)) (fun wx hx hd => ?_) (fun v9 => ?_)
  · skip
    clear hd
    intro KK hK
    replace hK := Shut.weak hK (by decide)
    have hcell := (Q1.out.later hx).cells
    go_simp
    exact hK.out _ _ rfl (Below.refl _ _)
  simp only [Act.put, List.setIfInBounds_toArray, List.set_cons_zero, List.set_cons_succ]
  refine Tab2.cons IsLW.lasting (fun h9 => absurd h9 (by decide)) (fun wx hx hd => ?_) (fun v10 => ?_)
  · skip
    have e9 : v9 = _ := (hd _ (.head _) (by kernel_rfl) : (IsV (.agg #[.int .i64 z, .slice A n c])) v9 wx)
    subst e9
    clear hd
    intro KK hK
    replace hK := Shut.weak hK (by decide)
    go_simp
    refine (least_any _ _ _ _ x K _ (hr1.below hx.out) (by omega)).mono ?_
    rintro e w' ⟨A', n', c', rfl, hc', hb'⟩
    exact hK.out _ _ ⟨A', n', c', rfl, hc'⟩ hb'
  simp only [Act.put, List.setIfInBounds_toArray, List.set_cons_zero, List.set_cons_succ]
  refine Tab2.cons IsV.lasting (fun h9 => absurd h9 (by decide)) (fun wx hx hd => ?_) (fun v11 => ?_)
  · skip
    clear hd
    intro KK hK
    replace hK := Shut.weak hK (by decide)
    have hcell := (Q2.out.later hx).cells
    go_simp
    exact hK.out _ _ rfl (Below.refl _ _)
  simp only [Act.put, List.setIfInBounds_toArray, List.set_cons_zero, List.set_cons_succ]
  refine Tab2.cons IsLW.lasting (fun h9 => absurd h9 (by decide)) (fun wx hx hd => ?_) (fun v12 => ?_)
  · skip
    have e11 : v11 = _ := (hd _ (.head _) (by kernel_rfl) : (IsV (.agg #[.int .i64 z2, .slice A2 n2 c2])) v11 wx)
    subst e11
    clear hd
    intro KK hK
    replace hK := Shut.weak hK (by decide)
    go_simp
    refine (least_any _ _ _ _ y L _ (hr2.below hx.out) (by omega)).mono ?_
    rintro e w' ⟨A', n', c', rfl, hc', hb'⟩
    exact hK.out _ _ ⟨A', n', c', rfl, hc'⟩ hb'
  simp only [Act.put, List.setIfInBounds_toArray, List.set_cons_zero, List.set_cons_succ]
  refine Tab2.cons IsBoxW.lasting (fun _ => IsBoxW.ptr) (fun wx hx hd => ?_) (fun v7 => ?_)
  · skip
    clear hd
    intro KK hK
    go_simp
    exact hK.out _ _ ⟨⟨_, hx.out.size, rfl, BoxW.new _ _ _ _ _⟩, fun _ => rfl⟩ (below_alloc _ _)
  simp only [Act.put, List.setIfInBounds_toArray, List.set_cons_zero, List.set_cons_succ]
  refine Tab2.cons IsBoxW.lasting (fun _ => IsBoxW.ptr) (fun wx hx hd => ?_) (fun v8 => ?_)
  · skip
    clear hd
    intro KK hK
    go_simp
    exact hK.out _ _ ⟨⟨_, hx.out.size, rfl, BoxW.new _ _ _ _ _⟩, fun _ => rfl⟩ (below_alloc _ _)
  simp only [Act.put, List.setIfInBounds_toArray, List.set_cons_zero, List.set_cons_succ]
  refine Tab2.nil fun wx hx hd hdif => ?_
  have hne : v7 ≠ v8 := hdif _ (.tail _ (.head _)) _ (.head _) rfl rfl (show (4 : Nat) ≠ 5 by decide)
  obtain ⟨A10, n10, c10, rfl, h10⟩ := (hd _ (.tail _ (.tail _ (.tail _ (.tail _ (.head _))))) : (IsLW x K) v10 wx)
  obtain ⟨A12, n12, c12, rfl, h12⟩ := (hd _ (.tail _ (.tail _ (.head _))) : (IsLW y L) v12 wx)
  obtain ⟨g7, j7, rfl, h7⟩ := (hd _ (.tail _ (.head _)) : (IsBoxW W.heap.size) v7 wx)
  obtain ⟨g8, j8, rfl, h8⟩ := (hd _ (.head _) : (IsBoxW W.heap.size) v8 wx)
  clear hd hdif
  have hx7 := h7.cells
  have hf7 := h7.free
  have hx8 := h8.cells
  have hf8 := h8.free
  have hg : g7 ≠ g8 := fun h9 => hne (by rw [h9])
  have hg' : g8 ≠ g7 := fun h9 => hg h9.symm
  clear hne
  obtain ⟨xa, hxa⟩ : ∃ xa, x.1 = xa := ⟨_, rfl⟩
  obtain ⟨ya, hya⟩ : ∃ ya, y.1 = ya := ⟨_, rfl⟩
  rw [hxa, hya]
  have HX1 := hide hxa
  have HY1 := hide hya
  clear hxa hya
  have o7 := onlyW wx g7 (.int .i64 xa) (.slice A10 n10 c10)
  have p7 := h7.store xa A10 n10 c10
  have p8 := BoxW.grown (g' := g7) h8 o7 hg'
  have o8 := onlyW ((wx.setCell ⟨g7, 0, none⟩ (.int .i64 xa)).setCell ⟨g7, 1, none⟩ (.slice A10 n10 c10)) g8 (.int .i64 ya) (.slice A12 n12 c12)
  have t7 := BoxW.grown (g' := g8) p7 o8 hg
  have t8 := p8.store ya A12 n12 c12
  have cx := (h10.far o7 h7.noLimb).far o8 p8.noLimb
  have cy := (h12.far o7 h7.noLimb).far o8 p8.noLimb
  have hWs := hS.size
  have hB := belowW (g := g8) (belowW (g := g7) (below_step hx.out hS) (by omega) (.int .i64 xa) (.slice A10 n10 c10)) (by omega) (.int .i64 ya) (.slice A12 n12 c12)
  have HF := hide (And.intro t7 (And.intro t8 (And.intro cx (And.intro cy hB))))
  clear t7 t8 cx cy hB o7 p7 p8 o8 h7 h8 h10 h12 hr1 hr2 hS hx hWs HW Q1 Q2
  go_upto_region 2 with (fail)
  obtain ⟨t7, t8, cx, cy, hB⟩ := HF.out
  clear HF
  obtain ⟨V, hV⟩ : ∃ V, V = (((wx.setCell ⟨g7, 0, none⟩ (.int .i64 xa)).setCell ⟨g7, 1, none⟩ (.slice A10 n10 c10)).setCell ⟨g8, 0, none⟩ (.int .i64 ya)).setCell ⟨g8, 1, none⟩ (.slice A12 n12 c12) := ⟨_, rfl⟩
  rw [← hV] at t7 t8 cx cy hB
  try rw [← hV]
  clear hx7 hf7 hx8 hf8 hV
  have T7 := hide t7
  have T8 := hide t8
  have hcx7 := t7.cells
  have hcx8 := t8.cells
  clear t7 t8 hg' hg
  have hl : (xa == ya) = false := by have := HX1.out; have := HY1.out; have := HL.out; simp; omega
  go_wp2
  go_ret
  exact ⟨by rw [HE.out]; rfl, hB⟩

set_option maxHeartbeats 8000000 in
theorem leasts_same2 (z : Int) (A : Option Addr) (n c : Nat) (x : LW) (K : Nat) (z2 : Int) (A2 : Option Addr) (n2 c2 : Nat) (y : LW) (L : Nat) (w : World) (h : RawW w z A n c x K) (h' : RawW w z2 A2 n2 c2 y L) (hK : K ≤ 900) (hL : L ≤ 900) (he1 : x.1 = y.1) :
    Calls Try.prog 16 #[.agg #[], .agg #[.int .i64 z, .slice A n c], .agg #[.int .i64 z2, .slice A2 n2 c2]] w (Makes (.bool (decide (x = y))) w) := by
  have HE := hide (same_eq he1)
  have HL := hide he1
  clear he1
  obtain ⟨W, hW, hS, q1, q2⟩ := boxesW w (.cells #[] 27) z A n c z2 A2 n2 c2
  have Q1 := hide q1
  have Q2 := hide q2
  have hr1 := h.below hS
  have hr2 := h'.below hS
  have HW := hide hW
  clear hW q1 q2 h h'
  go_enter Try.func16, Try.ntmps16
  go_wp2_with fail
  rw [← HW.out]
  refine wp_region_tab2 6 25 (fun i => i == 4 || i == 5) [IsV (.agg #[.int .i64 z, .slice A n c]), IsLW x K, IsV (.agg #[.int .i64 z2, .slice A2 n2 c2]), IsLW y L, IsBoxW W.heap.size, IsBoxW W.heap.size] (From W) (by kernel_rfl) (by kernel_rfl) (by kernel_rfl) rfl From.lasting' (From.drew (From.refl W)) ?_
  simp only [List.take_succ_cons, List.drop_succ_cons, List.take_zero, List.drop_zero]
  refine Tab2.cons IsV.lasting (fun h9 => absurd h9 (by decide)) (fun wx hx hd => ?_) (fun v9 => ?_)
  · skip
    clear hd
    intro KK hK
    replace hK := Shut.weak hK (by decide)
    have hcell := (Q1.out.later hx).cells
    go_simp
    exact hK.out _ _ rfl (Below.refl _ _)
  simp only [Act.put, List.setIfInBounds_toArray, List.set_cons_zero, List.set_cons_succ]
  refine Tab2.cons IsLW.lasting (fun h9 => absurd h9 (by decide)) (fun wx hx hd => ?_) (fun v10 => ?_)
  · skip
    have e9 : v9 = _ := (hd _ (.head _) (by kernel_rfl) : (IsV (.agg #[.int .i64 z, .slice A n c])) v9 wx)
    subst e9
    clear hd
    intro KK hK
    replace hK := Shut.weak hK (by decide)
    go_simp
    refine (least_any _ _ _ _ x K _ (hr1.below hx.out) (by omega)).mono ?_
    rintro e w' ⟨A', n', c', rfl, hc', hb'⟩
    exact hK.out _ _ ⟨A', n', c', rfl, hc'⟩ hb'
  simp only [Act.put, List.setIfInBounds_toArray, List.set_cons_zero, List.set_cons_succ]
  refine Tab2.cons IsV.lasting (fun h9 => absurd h9 (by decide)) (fun wx hx hd => ?_) (fun v11 => ?_)
  · skip
    clear hd
    intro KK hK
    replace hK := Shut.weak hK (by decide)
    have hcell := (Q2.out.later hx).cells
    go_simp
    exact hK.out _ _ rfl (Below.refl _ _)
  simp only [Act.put, List.setIfInBounds_toArray, List.set_cons_zero, List.set_cons_succ]
  refine Tab2.cons IsLW.lasting (fun h9 => absurd h9 (by decide)) (fun wx hx hd => ?_) (fun v12 => ?_)
  · skip
    have e11 : v11 = _ := (hd _ (.head _) (by kernel_rfl) : (IsV (.agg #[.int .i64 z2, .slice A2 n2 c2])) v11 wx)
    subst e11
    clear hd
    intro KK hK
    replace hK := Shut.weak hK (by decide)
    go_simp
    refine (least_any _ _ _ _ y L _ (hr2.below hx.out) (by omega)).mono ?_
    rintro e w' ⟨A', n', c', rfl, hc', hb'⟩
    exact hK.out _ _ ⟨A', n', c', rfl, hc'⟩ hb'
  simp only [Act.put, List.setIfInBounds_toArray, List.set_cons_zero, List.set_cons_succ]
  refine Tab2.cons IsBoxW.lasting (fun _ => IsBoxW.ptr) (fun wx hx hd => ?_) (fun v7 => ?_)
  · skip
    clear hd
    intro KK hK
    go_simp
    exact hK.out _ _ ⟨⟨_, hx.out.size, rfl, BoxW.new _ _ _ _ _⟩, fun _ => rfl⟩ (below_alloc _ _)
  simp only [Act.put, List.setIfInBounds_toArray, List.set_cons_zero, List.set_cons_succ]
  refine Tab2.cons IsBoxW.lasting (fun _ => IsBoxW.ptr) (fun wx hx hd => ?_) (fun v8 => ?_)
  · skip
    clear hd
    intro KK hK
    go_simp
    exact hK.out _ _ ⟨⟨_, hx.out.size, rfl, BoxW.new _ _ _ _ _⟩, fun _ => rfl⟩ (below_alloc _ _)
  simp only [Act.put, List.setIfInBounds_toArray, List.set_cons_zero, List.set_cons_succ]
  refine Tab2.nil fun wx hx hd hdif => ?_
  have hne : v7 ≠ v8 := hdif _ (.tail _ (.head _)) _ (.head _) rfl rfl (show (4 : Nat) ≠ 5 by decide)
  obtain ⟨A10, n10, c10, rfl, h10⟩ := (hd _ (.tail _ (.tail _ (.tail _ (.tail _ (.head _))))) : (IsLW x K) v10 wx)
  obtain ⟨A12, n12, c12, rfl, h12⟩ := (hd _ (.tail _ (.tail _ (.head _))) : (IsLW y L) v12 wx)
  obtain ⟨g7, j7, rfl, h7⟩ := (hd _ (.tail _ (.head _)) : (IsBoxW W.heap.size) v7 wx)
  obtain ⟨g8, j8, rfl, h8⟩ := (hd _ (.head _) : (IsBoxW W.heap.size) v8 wx)
  clear hd hdif
  have hx7 := h7.cells
  have hf7 := h7.free
  have hx8 := h8.cells
  have hf8 := h8.free
  have hg : g7 ≠ g8 := fun h9 => hne (by rw [h9])
  have hg' : g8 ≠ g7 := fun h9 => hg h9.symm
  clear hne
  obtain ⟨xa, hxa⟩ : ∃ xa, x.1 = xa := ⟨_, rfl⟩
  obtain ⟨ya, hya⟩ : ∃ ya, y.1 = ya := ⟨_, rfl⟩
  rw [hxa, hya]
  have HX1 := hide hxa
  have HY1 := hide hya
  clear hxa hya
  have o7 := onlyW wx g7 (.int .i64 xa) (.slice A10 n10 c10)
  have p7 := h7.store xa A10 n10 c10
  have p8 := BoxW.grown (g' := g7) h8 o7 hg'
  have o8 := onlyW ((wx.setCell ⟨g7, 0, none⟩ (.int .i64 xa)).setCell ⟨g7, 1, none⟩ (.slice A10 n10 c10)) g8 (.int .i64 ya) (.slice A12 n12 c12)
  have t7 := BoxW.grown (g' := g8) p7 o8 hg
  have t8 := p8.store ya A12 n12 c12
  have cx := (h10.far o7 h7.noLimb).far o8 p8.noLimb
  have cy := (h12.far o7 h7.noLimb).far o8 p8.noLimb
  have hWs := hS.size
  have hB := belowW (g := g8) (belowW (g := g7) (below_step hx.out hS) (by omega) (.int .i64 xa) (.slice A10 n10 c10)) (by omega) (.int .i64 ya) (.slice A12 n12 c12)
  have HF := hide (And.intro t7 (And.intro t8 (And.intro cx (And.intro cy hB))))
  clear t7 t8 cx cy hB o7 p7 p8 o8 h7 h8 h10 h12 hr1 hr2 hS hx hWs HW Q1 Q2
  go_upto_region 2 with (fail)
  obtain ⟨t7, t8, cx, cy, hB⟩ := HF.out
  clear HF
  obtain ⟨V, hV⟩ : ∃ V, V = (((wx.setCell ⟨g7, 0, none⟩ (.int .i64 xa)).setCell ⟨g7, 1, none⟩ (.slice A10 n10 c10)).setCell ⟨g8, 0, none⟩ (.int .i64 ya)).setCell ⟨g8, 1, none⟩ (.slice A12 n12 c12) := ⟨_, rfl⟩
  rw [← hV] at t7 t8 cx cy hB
  try rw [← hV]
  clear hx7 hf7 hx8 hf8 hV
  have T7 := hide t7
  have T8 := hide t8
  have hcx7 := t7.cells
  have hcx8 := t8.cells
  clear t7 t8 hg' hg
  have hl : (xa == ya) = true := by have := HX1.out; have := HY1.out; have := HL.out; simp; omega
  go_wp2_with fail
  refine (sequal_any _ _ _ _ _ _ _ _ _ cx.num cy.num).mono ?_
  rw [HE.out]
  rintro e w9 ⟨rfl, hb9⟩
  go_wp2
  go_ret
  exact ⟨by rfl, below_step hb9 hB⟩

set_option maxHeartbeats 8000000 in
theorem leasts_same (z : Int) (A : Option Addr) (n c : Nat) (x : LW) (K : Nat) (z2 : Int) (A2 : Option Addr) (n2 c2 : Nat) (y : LW) (L : Nat) (w : World) (h : RawW w z A n c x K) (h' : RawW w z2 A2 n2 c2 y L) (hK : K ≤ 900) (hL : L ≤ 900) :
    Calls Try.prog 16 #[.agg #[], .agg #[.int .i64 z, .slice A n c], .agg #[.int .i64 z2, .slice A2 n2 c2]] w (Makes (.bool (decide (x = y))) w) := by
  by_cases h1 : x.1 = y.1
  · exact leasts_same2 z A n c x K z2 A2 n2 c2 y L w h h' hK hL h1
  · exact leasts_same1 z A n c x K z2 A2 n2 c2 y L w h h' hK hL h1

end Go.Proofs.Ytonimfogmplgdaa
