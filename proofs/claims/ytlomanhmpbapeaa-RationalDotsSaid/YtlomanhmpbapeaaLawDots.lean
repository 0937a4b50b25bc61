/- The walk of the law RationalDots. -/
import Derived.Test.YtlomanhmpbapeaaRatRdot
namespace Go.Proofs.Ytlomanhmpbapeaa
open Go.RowKit

set_option maxHeartbeats 8000000 in
set_option maxRecDepth 10000 in
theorem law_RationalDots (w : World) (A : Option Addr) (n c : Nat) (ts : List RatT) (h : RawL w A n c ts) (ht : Reach ts) (hn : n ≤ 35184372088832) (A2 : Option Addr) (n2 c2 : Nat) (us : List RatT) (h' : RawL w A2 n2 c2 us) (ht' : Reach us) (hn' : n2 ≤ 35184372088832) :
    Calls Try.prog 9 #[.slice A n c, .slice A2 n2 c2] w (Makes (.bool true) w) := by
  have hcall := longq_any 4 A n c ts w h ht (by omega)
  cases hl1 : anyLongQ 4 ts with
  | true =>
    rw [hl1] at hcall
    clear hl1
    go_enter Try.func9, Try.ntmps9
    go_wp2_with fail
    refine hcall.mono ?_
    rintro e w1 ⟨rfl, hb1⟩
    clear hcall
    go_wp2
    go_ret
    exact ⟨rfl, hb1⟩
  | false =>
    rw [hl1] at hcall
    have hs1 : ShortT 4 ts := fun t hm => by have := anyLongQ_false hl1 t hm; omega
    clear hl1
    cases hl2 : anyLongQ 4 us with
    | true =>
      go_enter Try.func9, Try.ntmps9
      go_wp2_with fail
      refine hcall.mono ?_
      rintro e w1 ⟨rfl, hb1⟩
      clear hcall
      have hcall := longq_any 4 A2 n2 c2 us w1 (h'.below hb1) ht' (by omega)
      rw [hl2] at hcall
      clear hl2
      go_wp2_with fail
      refine hcall.mono ?_
      rintro e w2 ⟨rfl, hb2⟩
      clear hcall
      go_wp2
      go_ret
      exact ⟨rfl, below_step hb2 hb1⟩
    | false =>
      have hs2 : ShortT 4 us := fun t hm => by have := anyLongQ_false hl2 t hm; omega
      have n1 := h.le63
      have n2' := h'.le63
      go_enter Try.func9, Try.ntmps9
      go_wp2_with fail
      refine hcall.mono ?_
      rintro e w1 ⟨rfl, hb1⟩
      clear hcall
      have hcall := longq_any 4 A2 n2 c2 us w1 (h'.below hb1) ht' (by omega)
      rw [hl2] at hcall
      clear hl2
      go_wp2_with fail
      refine hcall.mono ?_
      rintro e w2 ⟨rfl, hb2⟩
      have hB := below_step hb2 hb1
      replace h := h.below hB
      replace h' := h'.below hB
      clear hcall hb1 hb2 ht ht'
      by_cases hbig : 16 < n
      · have hg : decide (16 < (n : Int)) = true := decide_eq_true (by omega)
        have hg' : (16 : Int) < (n : Int) := by omega
        clear hbig
        go_wp2
        go_ret
        exact ⟨rfl, hB⟩
      by_cases hbig2 : 16 < n2
      · have hg : decide (16 < (n : Int)) = false := decide_eq_false (by omega)
        have hg' : (16 : Int) < (n2 : Int) := by omega
        have hg2 : ¬ (16 : Int) < (n : Int) := by omega
        clear hbig hbig2
        go_wp2
        go_ret
        exact ⟨by rfl, hB⟩
      have hg1 : ¬ (16 : Int) < (n : Int) := by omega
      have hg2 : ¬ (16 : Int) < (n2 : Int) := by omega
      by_cases hne : n = n2
      · subst hne
        have hbnd : n * (2 * 4 + 2) ≤ 16 * (2 * 4 + 2) := Nat.mul_le_mul_right _ (by omega)
        have hbnd2 : n * (4 + 4 + 1) ≤ 16 * (4 + 4 + 1) := Nat.mul_le_mul_right _ (by omega)
        have hcall := qdot_ok A n c ts A2 c2 us w2 h h' 4 (by omega) ⟨hs1, hs2⟩ (by omega) (by omega)
        have hS12 := hide (show ShortT 4 ts ∧ ShortT 4 us from ⟨hs1, hs2⟩)
        obtain ⟨D, hD⟩ : ∃ D, D = dotT ts us := ⟨_, rfl⟩
        rw [← hD] at hcall
        have HD := hide hD.symm
        have HB2 := hide hbnd2
        clear hD hbig hbig2 hbnd hbnd2 hs1 hs2
        go_wp2_with fail
        refine hcall.mono ?_
        rintro e w3 ⟨A5, n5, c5, B5, m5, d5, rfl, hcan, hb3⟩
        clear hcall
        go_wp2_with fail
        have hba := below_alloc w3 (.cells #[.bool (qneg D), .slice A5 n5 c5, .slice B5 m5 d5] 25)
        have Q5 := hide (BoxQ.new w3 (qneg D) A5 n5 c5 B5 m5 d5)
        replace h := (h.below hb3).below hba
        replace h' := (h'.below hb3).below hba
        replace hcan := hcan.below hba
        replace hB := below_step hba (below_step hb3 hB)
        obtain ⟨W, hW⟩ : ∃ W, W = w3.alloc (.cells #[.bool (qneg D), .slice A5 n5 c5, .slice B5 m5 d5] 25) := ⟨_, rfl⟩
        rw [← hW] at Q5 h h' hcan hB ⊢
        obtain ⟨g5, hg5⟩ : ∃ g5, g5 = w3.heap.size := ⟨_, rfl⟩
        rw [← hg5] at Q5 ⊢
        clear hW hg5 hba hb3
        have hF := From.refl W
        refine wp_region_tab 10 47 [IsV (.int .i64 0), IsV (.bool true), IsV (.bool true), IsV (.agg #[.bool (qneg D), .slice A5 n5 c5, .slice B5 m5 d5]), IsV (.slice A n c), IsV (.slice A2 n c2), IsQ D (2 + n * (4 + 4 + 1)), IsV (.bool true), IsV (.bool true), IsV (.bool true)] (From W) (by kernel_rfl) (by kernel_rfl) (by kernel_rfl) rfl From.lasting (From.drew hF) ?_
        simp only [List.take_succ_cons, List.drop_succ_cons, List.take_nil, List.drop_nil]
        refine Tab.cons IsV.lasting (fun wx hx hd => ?_) (fun v38 => ?_)
        · skip
          clear hd
          intro KK hK
          go_simp
          exact hK.out _ _ rfl (Below.refl _ _)
        simp only [Act.put, List.setIfInBounds_toArray, List.set_cons_zero, List.set_cons_succ]
        refine Tab.cons IsV.lasting (fun wx hx hd => ?_) (fun v39 => ?_)
        · skip
          have e38 : v38 = _ := (hd _ (.head _) (by kernel_rfl) : (IsV (.int .i64 0)) v38 wx)
          subst e38
          clear hd
          intro KK hK
          go_simp
          exact hK.out _ _ rfl (Below.refl _ _)
        simp only [Act.put, List.setIfInBounds_toArray, List.set_cons_zero, List.set_cons_succ]
        refine Tab.cons IsV.lasting (fun wx hx hd => ?_) (fun v40 => ?_)
        · skip
          have e39 : v39 = _ := (hd _ (.head _) (by kernel_rfl) : (IsV (.bool true)) v39 wx)
          subst e39
          clear hd
          intro KK hK
          go_simp
          exact hK.out _ _ rfl (Below.refl _ _)
        simp only [Act.put, List.setIfInBounds_toArray, List.set_cons_zero, List.set_cons_succ]
        refine Tab.cons IsV.lasting (fun wx hx hd => ?_) (fun v41 => ?_)
        · skip
          have e40 : v40 = _ := (hd _ (.head _) (by kernel_rfl) : (IsV (.bool true)) v40 wx)
          subst e40
          clear hd
          intro KK hK
          have hcell := (Q5.out.later hx).cells
          go_simp
          exact hK.out _ _ rfl (Below.refl _ _)
        simp only [Act.put, List.setIfInBounds_toArray, List.set_cons_zero, List.set_cons_succ]
        refine Tab.cons IsV.lasting (fun wx hx hd => ?_) (fun v42 => ?_)
        · skip
          have e40 : v40 = _ := (hd _ (.tail _ (.head _)) (by kernel_rfl) : (IsV (.bool true)) v40 wx)
          subst e40
          clear hd
          intro KK hK
          go_simp
          exact hK.out _ _ rfl (Below.refl _ _)
        simp only [Act.put, List.setIfInBounds_toArray, List.set_cons_zero, List.set_cons_succ]
        refine Tab.cons IsV.lasting (fun wx hx hd => ?_) (fun v43 => ?_)
        · skip
          have e40 : v40 = _ := (hd _ (.tail _ (.tail _ (.head _))) (by kernel_rfl) : (IsV (.bool true)) v40 wx)
          subst e40
          clear hd
          intro KK hK
          go_simp
          exact hK.out _ _ rfl (Below.refl _ _)
        simp only [Act.put, List.setIfInBounds_toArray, List.set_cons_zero, List.set_cons_succ]
        refine Tab.cons IsQ.lasting (fun wx hx hd => ?_) (fun v44 => ?_)
        · skip
          have e42 : v42 = _ := (hd _ (.tail _ (.head _)) (by kernel_rfl) : (IsV (.slice A n c)) v42 wx)
          subst e42
          have e43 : v43 = _ := (hd _ (.head _) (by kernel_rfl) : (IsV (.slice A2 n c2)) v43 wx)
          subst e43
          have e40 : v40 = _ := (hd _ (.tail _ (.tail _ (.tail _ (.head _)))) (by kernel_rfl) : (IsV (.bool true)) v40 wx)
          subst e40
          clear hd
          intro KK hK
          go_simp
          refine (rdot_any A n c ts A2 c2 us wx (h.below hx.out) (h'.below hx.out) 4 (by omega) hS12.out (by omega) (by have := HB2.out; omega)).mono ?_
          rw [HD.out]
          rintro e w' ⟨A', n', c', B', m', d', rfl, hc', hb'⟩
          exact hK.out _ _ ⟨A', n', c', B', m', d', rfl, hc'⟩ hb'
        simp only [Act.put, List.setIfInBounds_toArray, List.set_cons_zero, List.set_cons_succ]
        refine Tab.cons IsV.lasting (fun wx hx hd => ?_) (fun v45 => ?_)
        · skip
          have e41 : v41 = _ := (hd _ (.tail _ (.tail _ (.tail _ (.head _)))) (by kernel_rfl) : (IsV (.agg #[.bool (qneg D), .slice A5 n5 c5, .slice B5 m5 d5])) v41 wx)
          subst e41
          obtain ⟨A44, n44, c44, B44, m44, d44, rfl, h44⟩ := (hd _ (.head _) (by kernel_rfl) : (IsQ D (2 + n * (4 + 4 + 1))) v44 wx)
          have e40 : v40 = _ := (hd _ (.tail _ (.tail _ (.tail _ (.tail _ (.head _))))) (by kernel_rfl) : (IsV (.bool true)) v40 wx)
          subst e40
          clear hd
          intro KK hK
          go_simp
          refine (same_q_yes (hcan.below hx.out) h44 rfl).mono ?_
          rintro e w' ⟨rfl, hb'⟩
          exact hK.out _ _ rfl hb'
        simp only [Act.put, List.setIfInBounds_toArray, List.set_cons_zero, List.set_cons_succ]
        refine Tab.cons IsV.lasting (fun wx hx hd => ?_) (fun v46 => ?_)
        · skip
          have e40 : v40 = _ := (hd _ (.tail _ (.tail _ (.tail _ (.tail _ (.tail _ (.head _)))))) (by kernel_rfl) : (IsV (.bool true)) v40 wx)
          subst e40
          have e45 : v45 = _ := (hd _ (.head _) (by kernel_rfl) : (IsV (.bool true)) v45 wx)
          subst e45
          clear hd
          intro KK hK
          go_simp
          exact hK.out _ _ rfl (Below.refl _ _)
        simp only [Act.put, List.setIfInBounds_toArray, List.set_cons_zero, List.set_cons_succ]
        refine Tab.cons IsV.lasting (fun wx hx hd => ?_) (fun v4 => ?_)
        · skip
          have e46 : v46 = _ := (hd _ (.head _) (by kernel_rfl) : (IsV (.bool true)) v46 wx)
          subst e46
          clear hd
          intro KK hK
          go_simp
          exact hK.out _ _ rfl (Below.refl _ _)
        simp only [Act.put, List.setIfInBounds_toArray, List.set_cons_zero, List.set_cons_succ]
        refine Tab.nil fun wx hx hd => ?_
        have e4 : v4 = _ := (hd _ (.head _) : (IsV (.bool true)) v4 wx)
        subst e4
        clear hd
        go_wp2
        go_ret
        exact ⟨by rfl, below_step hx.out hB⟩
      · have hcall := qdot_shape A n c A2 n2 c2 w2 hne
        have hx1 : ((n : Int) == (n2 : Int)) = false := by simp; omega
        clear hbig hbig2 hne
        go_wp2_with fail
        refine hcall.mono ?_
        rintro e w3 ⟨rfl, hb3⟩
        clear hcall
        go_wp2_with fail
        refine (nil_nil _).mono ?_
        rintro e w4 ⟨rfl, hb4⟩
        go_wp2
        go_ret
        exact ⟨by rfl, below_step hb4 (below_step (below_alloc w3 _) (below_step hb3 hB))⟩
end Go.Proofs.Ytlomanhmpbapeaa
