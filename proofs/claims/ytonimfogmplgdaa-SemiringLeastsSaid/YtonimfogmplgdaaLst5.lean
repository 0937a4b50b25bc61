/- The walk of the reference's least weight in its canonical form. -/
import Derived.Test.YtonimfogmplgdaaLst2
namespace Go.Proofs.Ytonimfogmplgdaa
open Go.RowKit

set_option maxHeartbeats 4000000 in
theorem rleast_any (z : Int) (A : Option Addr) (n c : Nat) (x : LW) (K : Nat) (w : World) (h : RawW w z A n c x K) (hK : K ≤ 1000) :
    Calls Try.prog 17 #[.agg #[.int .i64 z, .slice A n c]] w (RetLW x K w) := by
  obtain ⟨W, hW, hS, q1, q3⟩ := boxW2 w z A n c
  obtain ⟨⟨l, hl, hx⟩, hn⟩ := h.below hS
  have HW := hide hW
  have Q1 := hide q1
  have Q3 := hide q3
  have hc1 := q1.cells
  have hz3 := q3.2
  have hi : infW = 4611686018427387904 := rfl
  clear hW q1 q3 h
  by_cases hz : infW ≤ z
  · have HX : Hid (x = (infW, 0)) := by rw [Hid, ← hx]; exact if_pos (.inr hz)
    have hz1 : (4611686018427387904 : Int) ≤ z := by omega
    clear hx hi hz
    go_enter Try.func17, Try.ntmps17
    go_wp2_with fail
    rw [← HW.out]
    refine (none_any _ K).mono ?_
    rintro e w2 ⟨A2, n2, c2, rfl, h2, hb2⟩
    have q32 := (Q3.out).below hb2
    clear hc1
    have hcg := q32.cells
    have hfg := q32.free
    go_wp2
    exact bodyPost_ret (v := .agg #[.int .i64 infW, .slice A2 n2 c2]) (by simp [results, Try.results17, go_sem, hcg]) rfl ⟨A2, n2, c2, by rw [HX.out], by rw [HX.out]; exact h2.far (onlyW _ _ _ _) q32.noLimb, belowW (below_step hb2 hS) (by omega) _ _⟩
  · have hz1 : ¬ (4611686018427387904 : Int) ≤ z := by omega
    have hz2 : z < 4611686018427387904 := by omega
    by_cases hN : val l = 0
    · have HX : Hid (x = (infW, 0)) := by rw [Hid, ← hx, hN]; exact if_pos (.inl rfl)
      have hcall := rzero_any A n c l W hl (by omega) true (by simp [hN])
      clear hx hi hz hN
      go_enter Try.func17, Try.ntmps17
      go_wp2_with fail
      rw [← HW.out]
      refine hcall.mono ?_
      rintro e w1 ⟨rfl, hb1⟩
      clear hcall
      go_wp2_with fail
      refine (none_any _ K).mono ?_
      rintro e w2 ⟨A2, n2, c2, rfl, h2, hb2⟩
      have q32 := (Q3.out.below hb1).below hb2
      clear hc1
      have hcg := q32.cells
      have hfg := q32.free
      go_wp2
      exact bodyPost_ret (v := .agg #[.int .i64 infW, .slice A2 n2 c2]) (by simp [results, Try.results17, go_sem, hcg]) rfl ⟨A2, n2, c2, by rw [HX.out], by rw [HX.out]; exact h2.far (onlyW _ _ _ _) q32.noLimb, belowW (below_step hb2 (below_step hb1 hS)) (by omega) _ _⟩
    · have HX : Hid (x = (max z 0, val l)) := by rw [Hid, ← hx]; exact if_neg (by simp only [not_or]; exact ⟨hN, hz⟩)
      have HC := hide (show CanW x by rw [← hx]; exact lvW_can _ _)
      have hcall := rzero_any A n c l W hl (by omega) false (by simp [hN])
      obtain ⟨y, hy⟩ : ∃ y, y = max z 0 := ⟨_, rfl⟩
      have HY := hide hy
      have hmx : max 0 z = y := by rw [hy]; omega
      clear hx hi hz hN hy
      go_enter Try.func17, Try.ntmps17
      go_wp2_with fail
      rw [← HW.out]
      refine hcall.mono ?_
      rintro e w1 ⟨rfl, hb1⟩
      have hl1 := hl.below hb1
      have T1 := hide (Q1.out.below hb1)
      have T3 := hide (Q3.out.below hb1)
      clear hcall hc1 hl
      go_upto_region 3 with (fail)
      refine wp_region_tab 7 19 [IsV (.pointer (some ⟨w.heap.size, 0, none⟩)), IsV (.int .i64 z), IsV (.int .i64 y), IsV (.pointer (some ⟨w.heap.size, 1, none⟩)), IsV (.slice A n c), IsLN (val l) K, IsL40 y (val l) K] (From w1) (by kernel_rfl) (by kernel_rfl) (by kernel_rfl) rfl From.lasting' (From.drew (From.refl w1)) ?_
      simp only [List.take_succ_cons, List.drop_succ_cons, List.take_zero, List.drop_zero]
      refine Tab.cons IsV.lasting (fun wx hx hd => ?_) (fun v12 => ?_)
      · skip
        clear hd
        intro KK hK
        go_simp
        exact hK.out _ _ rfl (Below.refl _ _)
      simp only [Act.put, List.setIfInBounds_toArray, List.set_cons_zero, List.set_cons_succ]
      refine Tab.cons IsV.lasting (fun wx hx hd => ?_) (fun v13 => ?_)
      · skip
        have e12 : v12 = _ := (hd _ (.head _) (by kernel_rfl) : (IsV (.pointer (some ⟨w.heap.size, 0, none⟩))) v12 wx)
        subst e12
        clear hd
        intro KK hK
        have hcell := (T1.out.later hx).cells
        go_simp
        exact hK.out _ _ rfl (Below.refl _ _)
      simp only [Act.put, List.setIfInBounds_toArray, List.set_cons_zero, List.set_cons_succ]
      refine Tab.cons IsV.lasting (fun wx hx hd => ?_) (fun v14 => ?_)
      · skip
        have e13 : v13 = _ := (hd _ (.head _) (by kernel_rfl) : (IsV (.int .i64 z)) v13 wx)
        subst e13
        clear hd
        intro KK hK
        try rw [hmx]
        go_simp
        exact hK.out _ _ rfl (Below.refl _ _)
      simp only [Act.put, List.setIfInBounds_toArray, List.set_cons_zero, List.set_cons_succ]
      refine Tab.cons IsV.lasting (fun wx hx hd => ?_) (fun v15 => ?_)
      · skip
        clear hd
        intro KK hK
        go_simp
        exact hK.out _ _ rfl (Below.refl _ _)
      simp only [Act.put, List.setIfInBounds_toArray, List.set_cons_zero, List.set_cons_succ]
      refine Tab.cons IsV.lasting (fun wx hx hd => ?_) (fun v16 => ?_)
      · skip
        have e15 : v15 = _ := (hd _ (.head _) (by kernel_rfl) : (IsV (.pointer (some ⟨w.heap.size, 1, none⟩))) v15 wx)
        subst e15
        clear hd
        intro KK hK
        have hcell := (T1.out.later hx).cells
        go_simp
        exact hK.out _ _ rfl (Below.refl _ _)
      simp only [Act.put, List.setIfInBounds_toArray, List.set_cons_zero, List.set_cons_succ]
      refine Tab.cons IsLN.lasting (fun wx hx hd => ?_) (fun v17 => ?_)
      · skip
        have e16 : v16 = _ := (hd _ (.head _) (by kernel_rfl) : (IsV (.slice A n c)) v16 wx)
        subst e16
        clear hd
        intro KK hK
        go_simp
        refine (rtrim1 (hl1.below hx.out) (by omega)).mono ?_
        rintro e w' ⟨A', n', c', rfl, h', hb', hn'⟩
        exact hK.out _ _ ⟨A', n', c', rfl, h', by omega⟩ hb'
      simp only [Act.put, List.setIfInBounds_toArray, List.set_cons_zero, List.set_cons_succ]
      refine Tab.cons IsL40.lasting (fun wx hx hd => ?_) (fun v18 => ?_)
      · skip
        have e14 : v14 = _ := (hd _ (.tail _ (.tail _ (.tail _ (.head _)))) (by kernel_rfl) : (IsV (.int .i64 y)) v14 wx)
        subst e14
        obtain ⟨A17, n17, c17, rfl, h17, k17⟩ := (hd _ (.head _) (by kernel_rfl) : (IsLN (val l) K) v17 wx)
        clear hd
        intro KK hK
        go_simp
        exact hK.out _ _ ⟨A17, n17, c17, rfl, h17, k17⟩ (Below.refl _ _)
      simp only [Act.put, List.setIfInBounds_toArray, List.set_cons_zero, List.set_cons_succ]
      refine Tab.nil fun wx hx hd => ?_
      obtain ⟨A18, n18, c18, rfl, h18, k18⟩ := (hd _ (.head _) : (IsL40 y (val l) K) v18 wx)
      clear hd
      have q31 := T3.out.later hx
      have hcg := q31.cells
      have hfg := q31.free
      go_wp2
      exact bodyPost_ret (v := .agg #[.int .i64 y, .slice A18 n18 c18]) (by simp [results, Try.results17, go_sem, hcg]) rfl ⟨A18, n18, c18, by rw [HX.out, ← HY.out], ⟨Rd.farW (by rw [HX.out]; exact h18) (onlyW _ _ _ _) q31.noLimb, k18, HC.out⟩, belowW (below_step hx.out (below_step hb1 hS)) (by omega) _ _⟩

end Go.Proofs.Ytonimfogmplgdaa
