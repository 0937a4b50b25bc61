/- The walk of the law RationalTexts. -/
import Derived.Test.YtfggecdgnidhfaaDoorQParse
namespace Go.Proofs.YtfggecdgnidhfaaDoor
open Go.RowKit
theorem ratOf_small {s : Bool} {N D K L : Nat} (hN : N < 4294967296 ^ K) (hD : D < 4294967296 ^ L) (_ : 1 ≤ K) (hL : 1 ≤ L) : (ratOf s N D).num.natAbs < 4294967296 ^ K ∧ (ratOf s N D).den < 4294967296 ^ L := by
  have h1 : 1 < 4294967296 ^ L := Nat.one_lt_pow (by omega) (by decide)
  by_cases h0 : D = 0
  · subst h0
    rw [ratOf_zero_den]
    exact ⟨Nat.pow_pos (by decide), h1⟩
  · rw [ratOf_abs h0, ratOf_den h0]
    exact ⟨Nat.lt_of_le_of_lt (Nat.div_le_self _ _) hN, Nat.lt_of_le_of_lt (Nat.div_le_self _ _) hD⟩
theorem qtxt_short {s : Bool} {N D K L : Nat} (hN : N < 4294967296 ^ K) (hD : D < 4294967296 ^ L) (hK : 1 ≤ K) (hL : 1 ≤ L) : (qtxt (ratOf s N D)).length ≤ 10 * K + 10 * L + 2 := by
  obtain ⟨h1, h2⟩ := ratOf_small (s := s) hN hD hK hL
  have h3 := dec_short h1 (by omega)
  have h4 := dec_short h2 (by omega)
  have h5 := qtxt_len (ratOf s N D)
  omega
set_option maxHeartbeats 4000000 in
set_option maxRecDepth 10000 in
theorem law_RationalTexts (w : World) (hmx : ∃ m, w.cell? ⟨0, 0, none⟩ = some (.int .i64 m)) (s : Bool) (A : Option Addr) (n c : Nat) (x : List Nat) (B : Option Addr) (m d : Nat) (y : List Nat) (g1 : Rd w A n c x) (sA : n ≤ 35184372088832) (g2 : Rd w B m d y) (sB : m ≤ 35184372088832) :
    Calls Tryd.prog 5 #[.agg #[.bool s, .slice A n c, .slice B m d]] w (Makes (.bool true) w) := by
  obtain ⟨W, hW, hS, q1⟩ := box1 w s A n c B m d
  have HW := hide hW
  have hc1 := q1.cells
  by_cases hlong : 60 < n + m
  · clear hW hmx g1 g2
    go_enter Tryd.func5, Tryd.ntmps5
    go_wp2
    go_ret
    rw [← HW.out]
    exact ⟨rfl, hS⟩
  · have hshort : n + m ≤ 60 := by omega
    have hlen : (qtxt (ratOf s (val x) (val y))).length ≤ 10 * (n + 1) + 10 * (m + 1) + 2 := by
      refine qtxt_short (Nat.lt_of_lt_of_le (val_lt g1.lims) (Nat.pow_le_pow_right (by decide) ?_)) (Nat.lt_of_lt_of_le (val_lt g2.lims) (Nat.pow_le_pow_right (by decide) ?_)) (by omega) (by omega)
      · rw [g1.len]; omega
      · rw [g2.len]; omega
    obtain ⟨q, hq⟩ : ∃ q, q = ratOf s (val x) (val y) := ⟨_, rfl⟩
    have r1 : RawQ W s A n c B m d q 60 := ⟨⟨x, y, g1.below hS, g2.below hS, hq.symm⟩, by omega, by omega⟩
    rw [← hq] at hlen
    have hmxW := max_below hS hmx
    have HP := hide (text_parse q)
    obtain ⟨T, hT⟩ : ∃ T : ByteArray, T.data.toList = qtxt q := ⟨⟨(qtxt q).toArray⟩, by simp⟩
    have HTX : Hid ((⟨(qtxt q).toArray⟩ : ByteArray) = T) := mk_list hT
    have hTs : T.size ≤ 1000 := by
      have h9 : T.data.toList.length ≤ 1000 := by rw [hT]; exact Nat.le_trans hlen (by omega)
      exact h9
    have hcall := qtext_any s A n c B m d q 60 W r1 (by omega) (by omega)
    rw [HTX.out] at hcall
    have hp : ∀ w', (∃ m, w'.cell? ⟨0, 0, none⟩ = some (.int .i64 m)) → Calls Tryd.prog 14 #[.string T] w' (RetQE q 1000 w') := fun w' hm' => (qparse_any T w' hTs hm').mono fun e w9 ⟨_, _, h3, hb⟩ => by
      rw [hT, HP.out.2] at h3
      obtain ⟨A9, n9, c9, B9, m9, d9, h4, h5⟩ := h3 HP.out.1 rfl
      exact ⟨A9, n9, c9, B9, m9, d9, h4, h5, hb⟩
    have HPC := hide hp
    have HMX := hide hmxW
    have htt : (T.toList == T.toList) = true := by simp
    clear hW hlen hq hmx hmxW hp hT hTs g1 g2 sA sB hlong
    go_enter Tryd.func5, Tryd.ntmps5
    go_wp2_with fail
    rw [← HW.out]
    refine hcall.mono ?_
    rintro e w1 ⟨rfl, hb1⟩
    clear hcall
    go_wp2_with fail
    refine (HPC.out w1 (max_below hb1 HMX.out)).mono ?_
    rintro e w2 ⟨A1, n1, c1, B1, m1, d1, rfl, can1, hb2⟩
    obtain ⟨W2, hW2, hS2, q4⟩ := box1 w2 (qneg q) A1 n1 c1 B1 m1 d1
    have HW2 := hide hW2
    have hb0 := below_step hS2 (below_step hb2 hb1)
    have Q1 := hide (q1.below hb0)
    have Q4 := hide q4
    have hB := below_step hb0 hS
    replace can1 := can1.below hS2
    replace r1 := r1.below hb0
    have hF := From.refl W2
    clear hW2 hb2 hb1 hS2 hb0 q1 q4 hS hc1 HPC
    go_wp2_with fail
    rw [← HW2.out]
    refine wp_region_tab 15 35 [IsV (.string T), IsV (.agg #[.bool s, .slice A n c, .slice B m d]), IsV (.string T), IsV (.bool true), IsV (.bool true), IsV (.int .i64 0), IsV (.bool true), IsV (.bool true), IsV (.bool true), IsV (.agg #[.bool (qneg q), .slice A1 n1 c1, .slice B1 m1 d1]), IsV (.agg #[.bool s, .slice A n c, .slice B m d]), IsQ (q) 60, IsV (.bool true), IsV (.bool true), IsV (.bool true)] (From W2) (by kernel_rfl) (by kernel_rfl) (by kernel_rfl) rfl From.lasting (From.drew hF) ?_
    simp only [List.take_succ_cons, List.drop_succ_cons, List.take_nil, List.drop_nil]
    refine Tab.cons IsV.lasting (fun wx hx hd => ?_) (fun v21 => ?_)
    · skip
      clear hd
      intro KK hK
      go_simp
      exact hK.out _ _ rfl (Below.refl _ _)
    simp only [Act.put, List.setIfInBounds_toArray, List.set_cons_zero, List.set_cons_succ]
    refine Tab.cons IsV.lasting (fun wx hx hd => ?_) (fun v22 => ?_)
    · skip
      clear hd
      intro KK hK
      have hcell := (Q1.out.later hx).cells
      go_simp
      exact hK.out _ _ rfl (Below.refl _ _)
    simp only [Act.put, List.setIfInBounds_toArray, List.set_cons_zero, List.set_cons_succ]
    refine Tab.cons IsV.lasting (fun wx hx hd => ?_) (fun v23 => ?_)
    · skip
      have e22 : v22 = _ := (hd _ (.head _) (by kernel_rfl) : (IsV (.agg #[.bool s, .slice A n c, .slice B m d])) v22 wx)
      subst e22
      clear hd
      intro KK hK
      go_simp
      have hct := rqtext_any _ _ _ _ _ _ _ q 60 _ (r1.below hx.out) (by omega) (by omega)
      rw [HTX.out] at hct
      refine hct.mono ?_
      rintro e w' ⟨rfl, hb'⟩
      exact hK.out _ _ rfl hb'
    simp only [Act.put, List.setIfInBounds_toArray, List.set_cons_zero, List.set_cons_succ]
    refine Tab.cons IsV.lasting (fun wx hx hd => ?_) (fun v24 => ?_)
    · skip
      have e21 : v21 = _ := (hd _ (.tail _ (.tail _ (.head _))) (by kernel_rfl) : (IsV (.string T)) v21 wx)
      subst e21
      have e23 : v23 = _ := (hd _ (.head _) (by kernel_rfl) : (IsV (.string T)) v23 wx)
      subst e23
      clear hd
      intro KK hK
      go_simp
      exact hK.out _ _ rfl (Below.refl _ _)
    simp only [Act.put, List.setIfInBounds_toArray, List.set_cons_zero, List.set_cons_succ]
    refine Tab.cons IsV.lasting (fun wx hx hd => ?_) (fun v25 => ?_)
    · skip
      have e24 : v24 = _ := (hd _ (.head _) (by kernel_rfl) : (IsV (.bool true)) v24 wx)
      subst e24
      clear hd
      intro KK hK
      go_simp
      exact hK.out _ _ rfl (Below.refl _ _)
    simp only [Act.put, List.setIfInBounds_toArray, List.set_cons_zero, List.set_cons_succ]
    refine Tab.cons IsV.lasting (fun wx hx hd => ?_) (fun v26 => ?_)
    · skip
      have e25 : v25 = _ := (hd _ (.head _) (by kernel_rfl) : (IsV (.bool true)) v25 wx)
      subst e25
      clear hd
      intro KK hK
      go_simp
      exact hK.out _ _ rfl (Below.refl _ _)
    simp only [Act.put, List.setIfInBounds_toArray, List.set_cons_zero, List.set_cons_succ]
    refine Tab.cons IsV.lasting (fun wx hx hd => ?_) (fun v27 => ?_)
    · skip
      have e26 : v26 = _ := (hd _ (.head _) (by kernel_rfl) : (IsV (.int .i64 0)) v26 wx)
      subst e26
      have e25 : v25 = _ := (hd _ (.tail _ (.head _)) (by kernel_rfl) : (IsV (.bool true)) v25 wx)
      subst e25
      clear hd
      intro KK hK
      go_simp
      exact hK.out _ _ rfl (Below.refl _ _)
    simp only [Act.put, List.setIfInBounds_toArray, List.set_cons_zero, List.set_cons_succ]
    refine Tab.cons IsV.lasting (fun wx hx hd => ?_) (fun v28 => ?_)
    · skip
      have e25 : v25 = _ := (hd _ (.tail _ (.tail _ (.head _))) (by kernel_rfl) : (IsV (.bool true)) v25 wx)
      subst e25
      have e27 : v27 = _ := (hd _ (.head _) (by kernel_rfl) : (IsV (.bool true)) v27 wx)
      subst e27
      clear hd
      intro KK hK
      go_simp
      exact hK.out _ _ rfl (Below.refl _ _)
    simp only [Act.put, List.setIfInBounds_toArray, List.set_cons_zero, List.set_cons_succ]
    refine Tab.cons IsV.lasting (fun wx hx hd => ?_) (fun v29 => ?_)
    · skip
      have e28 : v28 = _ := (hd _ (.head _) (by kernel_rfl) : (IsV (.bool true)) v28 wx)
      subst e28
      clear hd
      intro KK hK
      go_simp
      exact hK.out _ _ rfl (Below.refl _ _)
    simp only [Act.put, List.setIfInBounds_toArray, List.set_cons_zero, List.set_cons_succ]
    refine Tab.cons IsV.lasting (fun wx hx hd => ?_) (fun v30 => ?_)
    · skip
      have e29 : v29 = _ := (hd _ (.head _) (by kernel_rfl) : (IsV (.bool true)) v29 wx)
      subst e29
      clear hd
      intro KK hK
      have hcell := (Q4.out.later hx).cells
      go_simp
      exact hK.out _ _ rfl (Below.refl _ _)
    simp only [Act.put, List.setIfInBounds_toArray, List.set_cons_zero, List.set_cons_succ]
    refine Tab.cons IsV.lasting (fun wx hx hd => ?_) (fun v31 => ?_)
    · skip
      have e29 : v29 = _ := (hd _ (.tail _ (.head _)) (by kernel_rfl) : (IsV (.bool true)) v29 wx)
      subst e29
      clear hd
      intro KK hK
      have hcell := (Q1.out.later hx).cells
      go_simp
      exact hK.out _ _ rfl (Below.refl _ _)
    simp only [Act.put, List.setIfInBounds_toArray, List.set_cons_zero, List.set_cons_succ]
    refine Tab.cons IsQ.lasting (fun wx hx hd => ?_) (fun v32 => ?_)
    · skip
      have e31 : v31 = _ := (hd _ (.head _) (by kernel_rfl) : (IsV (.agg #[.bool s, .slice A n c, .slice B m d])) v31 wx)
      subst e31
      have e29 : v29 = _ := (hd _ (.tail _ (.tail _ (.head _))) (by kernel_rfl) : (IsV (.bool true)) v29 wx)
      subst e29
      clear hd
      intro KK hK
      go_simp
      refine (rtrim_q _ _ _ _ _ _ _ _ 60 _ (r1.below hx.out) (by omega) (by omega)).mono ?_
      rintro e w' ⟨A', n', c', B', m', d', rfl, hc', hb'⟩
      exact hK.out _ _ ⟨A', n', c', B', m', d', rfl, hc'⟩ hb'
    simp only [Act.put, List.setIfInBounds_toArray, List.set_cons_zero, List.set_cons_succ]
    refine Tab.cons IsV.lasting (fun wx hx hd => ?_) (fun v33 => ?_)
    · skip
      have e30 : v30 = _ := (hd _ (.tail _ (.tail _ (.head _))) (by kernel_rfl) : (IsV (.agg #[.bool (qneg q), .slice A1 n1 c1, .slice B1 m1 d1])) v30 wx)
      subst e30
      obtain ⟨A32, n32, c32, B32, m32, d32, rfl, h32⟩ := (hd _ (.head _) (by kernel_rfl) : (IsQ (q) 60) v32 wx)
      have e29 : v29 = _ := (hd _ (.tail _ (.tail _ (.tail _ (.head _)))) (by kernel_rfl) : (IsV (.bool true)) v29 wx)
      subst e29
      clear hd
      intro KK hK
      go_simp
      refine (same_q_yes (can1.below hx.out) h32 rfl).mono ?_
      rintro e w' ⟨rfl, hb'⟩
      exact hK.out _ _ rfl hb'
    simp only [Act.put, List.setIfInBounds_toArray, List.set_cons_zero, List.set_cons_succ]
    refine Tab.cons IsV.lasting (fun wx hx hd => ?_) (fun v34 => ?_)
    · skip
      have e29 : v29 = _ := (hd _ (.tail _ (.tail _ (.tail _ (.tail _ (.head _))))) (by kernel_rfl) : (IsV (.bool true)) v29 wx)
      subst e29
      have e33 : v33 = _ := (hd _ (.head _) (by kernel_rfl) : (IsV (.bool true)) v33 wx)
      subst e33
      clear hd
      intro KK hK
      go_simp
      exact hK.out _ _ rfl (Below.refl _ _)
    simp only [Act.put, List.setIfInBounds_toArray, List.set_cons_zero, List.set_cons_succ]
    refine Tab.cons IsV.lasting (fun wx hx hd => ?_) (fun v2 => ?_)
    · skip
      have e34 : v34 = _ := (hd _ (.head _) (by kernel_rfl) : (IsV (.bool true)) v34 wx)
      subst e34
      clear hd
      intro KK hK
      go_simp
      exact hK.out _ _ rfl (Below.refl _ _)
    simp only [Act.put, List.setIfInBounds_toArray, List.set_cons_zero, List.set_cons_succ]
    refine Tab.nil fun wx hx hd => ?_
    have e2 : v2 = _ := (hd _ (.head _) : (IsV (.bool true)) v2 wx)
    subst e2
    clear hd
    go_wp2
    go_ret
    exact ⟨by rfl, below_step hx.out hB⟩
end Go.Proofs.YtfggecdgnidhfaaDoor
