/- The text of a rational: the walks of Text on both sides. -/
import Derived.Test.YtfggecdgnidhfaaDoorQTextM
import Derived.Test.YtfggecdgnidhfaaDoorText
import Derived.Test.YtfggecdgnidhfaaDoorRefText
import Derived.Test.YtfggecdgnidhfaaDoorRatFloor
import Derived.Test.YtfggecdgnidhfaaDoorMonoQ
import Derived.Test.YtfggecdgnidhfaaDoorLawTexts
namespace Go.Proofs.YtfggecdgnidhfaaDoor
open Go.RowKit
theorem txt_short {N n K : Nat} (h : (limbs N).length = n) (hn : n ≤ K) (hK : 1 ≤ K) : (⟨(dec N).toArray⟩ : ByteArray).size ≤ 10 * K := by
  have h1 : N < 4294967296 ^ K := Nat.lt_of_lt_of_le (lt_pow_length N) (Nat.pow_le_pow_right (by decide) (by omega))
  have := dec_short h1 (by omega)
  simpa [ByteArray.size] using this
theorem qtxt_bytes (q : Rat) : (⟨(qtxt q).toArray⟩ : ByteArray) = (if qneg q then (⟨#[45]⟩ : ByteArray) ++ ⟨(dec q.num.natAbs).toArray⟩ else ⟨(dec q.num.natAbs).toArray⟩) ++ (if q.den = 1 then (⟨#[]⟩ : ByteArray) else ⟨#[47]⟩ ++ ⟨(dec q.den).toArray⟩) := by
  apply ByteArray.ext
  unfold qtxt
  split <;> split <;> simp [ByteArray.data_append]
theorem cmpV_ne {x y : Nat} (h : x ≠ y) : cmpV x y ≠ 0 := by
  unfold cmpV
  split
  · decide
  · split <;> omega
set_option maxHeartbeats 4000000 in
set_option maxRecDepth 10000 in
theorem qtext_any (s : Bool) (A : Option Addr) (n c : Nat) (B : Option Addr) (m d : Nat) (q : Rat) (K : Nat) (w : World) (h : RawQ w s A n c B m d q K) (hK1 : 1 ≤ K) (hK : K ≤ 1000) :
    Calls Tryd.prog 13 #[.agg #[.bool s, .slice A n c, .slice B m d]] w (Makes (.string ⟨(qtxt q).toArray⟩) w) := by
  obtain ⟨W0, hW0, hS, q1⟩ := box1 w s A n c B m d
  have hr := h.below hS
  have HW := hide hW0
  clear hW0 h
  go_enter Tryd.func13, Tryd.ntmps13
  go_wp2_with fail
  rw [← HW.out]
  refine (trim_q _ _ _ _ _ _ _ _ K _ hr hK1 (by omega)).mono ?_
  rintro e w1 ⟨A', n', c', B', m', d', rfl, hcan, hb1⟩
  have q11 := q1.below hb1
  have hcg := q11.cells
  have hfg := q11.free
  have ho := only3 w1 w.heap.size (.bool (qneg q)) (.slice A' n' c') (.slice B' m' d')
  have hcans := hcan.far ho q11.noNum
  have q1s := q11.store3 (qneg q) A' n' c' B' m' d'
  have hBs := below3 (below_step hb1 hS) (Nat.le_refl _) (.bool (qneg q)) (.slice A' n' c') (.slice B' m' d')
  obtain ⟨W, hW⟩ : ∃ W, W = ((w1.setCell ⟨w.heap.size, 0, none⟩ (.bool (qneg q))).setCell ⟨w.heap.size, 1, none⟩ (.slice A' n' c')).setCell ⟨w.heap.size, 2, none⟩ (.slice B' m' d') := ⟨_, rfl⟩
  have HWS := hide hW
  rw [← hW] at hcans q1s hBs
  have e1 := hcans.num
  have e2 := hcans.den
  have hcl := hcans.hn
  have hcm := hcans.hm
  have hl1 := txt_short (K := K) e1.len hcl hK1
  have hl2 := txt_short (K := K) e2.len hcm hK1
  obtain ⟨D1, hD1⟩ : ∃ D : ByteArray, D = ⟨(dec q.num.natAbs).toArray⟩ := ⟨_, rfl⟩
  obtain ⟨D2, hD2⟩ : ∃ D : ByteArray, D = ⟨(dec q.den).toArray⟩ := ⟨_, rfl⟩
  have hcall := text_any A' n' c' _ W e1 (by omega)
  rw [val_limbs, ← hD1] at hcall
  have hcall2 : ∀ w', Below W.heap.size W w' → Calls Tryd.prog 7 #[.slice B' m' d'] w' (Makes (.string D2) w') := fun w' hb => by
    have := text_any B' m' d' _ w' (e2.below hb) (by omega)
    rwa [val_limbs, ← hD2] at this
  rw [← hD1] at hl1
  rw [← hD2] at hl2
  have HC2 := hide hcall2
  have HT := hide (qtxt_bytes q)
  rw [← hD1, ← hD2] at HT
  have HCS := hide hcall
  have E2 := hide e2
  have hl1' : D1.size ≤ 10000 := by omega
  have hl2' : D2.size ≤ 10000 := by omega
  clear hW hr q1 hS hb1 hcan ho hcans hcall hcall2 hD1 hD2 hl1 hl2 e1 e2 hcl hcm
  go_wp2_with fail
  rw [← HWS.out]
  refine HCS.out.mono ?_
  rintro e w2 ⟨rfl, hb2⟩
  have Q2 := hide (q1s.below hb2)
  have hc1 := Q2.out.cells
  have hB2 := below_step hb2 hBs
  have hz2 := Q2.out.2
  have E22 := hide (E2.out.below hb2)
  have HB2 := hide hb2
  clear hcg hfg q11 q1s hBs HWS HCS hb2
  obtain ⟨u, hu⟩ : ∃ u, u = qneg q := ⟨_, rfl⟩
  rw [← hu] at hc1 Q2
  have hden : q.den = 1 ∨ q.den ≠ 1 := by omega
  have hF := From.refl w2
  cases u with
  | true =>
    have hsz : 1 + D1.size ≤ 10001 := by omega
    rcases hden with hd | hd
    · have HX : Hid ((⟨(qtxt q).toArray⟩ : ByteArray) = ⟨#[45]⟩ ++ D1) := by rw [Hid, HT.out, ← hu, if_pos hd]; exact ByteArray.ext (by simp [ByteArray.data_append])
      have HC : Hid (cmpV q.den 1 = 0) := by rw [Hid, hd]; rfl
      clear hd hu HT
      go_wp2_with fail
      refine wp_region_tab 5 25 [IsV (.pointer (some ⟨w.heap.size, 2, none⟩)), IsV (.slice B' m' d'), IsN 1 1, IsV (.int .i64 0), IsV (.bool false)] (From w2) (by kernel_rfl) (by kernel_rfl) (by kernel_rfl) rfl From.lasting (From.drew hF) ?_
      simp only [List.take_succ_cons, List.drop_succ_cons, List.take_nil, List.drop_nil]
      refine Tab.cons IsV.lasting (fun wx hx hd => ?_) (fun v13 => ?_)
      · skip
        clear hd
        intro KK hK
        go_simp
        exact hK.out _ _ rfl (Below.refl _ _)
      simp only [Act.put, List.setIfInBounds_toArray, List.set_cons_zero, List.set_cons_succ]
      refine Tab.cons IsV.lasting (fun wx hx hd => ?_) (fun v14 => ?_)
      · skip
        have e13 : v13 = _ := (hd _ (.head _) (by kernel_rfl) : (IsV (.pointer (some ⟨w.heap.size, 2, none⟩))) v13 wx)
        subst e13
        clear hd
        intro KK hK
        have hcell := (Q2.out.later hx).cells
        go_simp
        exact hK.out _ _ rfl (Below.refl _ _)
      simp only [Act.put, List.setIfInBounds_toArray, List.set_cons_zero, List.set_cons_succ]
      refine Tab.cons IsN.lasting (fun wx hx hd => ?_) (fun v15 => ?_)
      · skip
        clear hd
        intro KK hK
        go_simp
        refine (qone_ret _).mono ?_
        rintro e w' ⟨A9, rfl, h9, hb'⟩
        exact hK.out _ _ ⟨A9, 1, 1, rfl, h9, Nat.le_refl _⟩ hb'
      simp only [Act.put, List.setIfInBounds_toArray, List.set_cons_zero, List.set_cons_succ]
      refine Tab.cons IsV.lasting (fun wx hx hd => ?_) (fun v16 => ?_)
      · skip
        have e14 : v14 = _ := (hd _ (.tail _ (.head _)) (by kernel_rfl) : (IsV (.slice B' m' d')) v14 wx)
        subst e14
        obtain ⟨A15, n15, c15, rfl, h15, k15⟩ := (hd _ (.head _) (by kernel_rfl) : (IsN 1 1) v15 wx)
        clear hd
        intro KK hK
        go_simp
        have hct := cmp_any _ _ _ _ _ _ _ _ _ (E22.out.below hx.out) h15
        rw [val_limbs, val_limbs, HC.out] at hct
        refine hct.mono ?_
        rintro e w' ⟨rfl, hb'⟩
        exact hK.out _ _ rfl hb'
      simp only [Act.put, List.setIfInBounds_toArray, List.set_cons_zero, List.set_cons_succ]
      refine Tab.cons IsV.lasting (fun wx hx hd => ?_) (fun v17 => ?_)
      · skip
        have e16 : v16 = _ := (hd _ (.head _) (by kernel_rfl) : (IsV (.int .i64 0)) v16 wx)
        subst e16
        clear hd
        intro KK hK
        go_simp
        exact hK.out _ _ rfl (Below.refl _ _)
      simp only [Act.put, List.setIfInBounds_toArray, List.set_cons_zero, List.set_cons_succ]
      refine Tab.nil fun wx hx hd => ?_
      have e17 : v17 = _ := (hd _ (.head _) : (IsV (.bool false)) v17 wx)
      subst e17
      clear hd
      have hc3 := (Q2.out.later hx).cells
      have hB3 := below_step hx.out hB2
      have hb24 := HB2.out.trans (hx.out.mono HB2.out.size)
      clear hc1
      go_wp2
      go_ret
      exact ⟨by rw [HX.out]; rfl, hB3⟩
    · have HX : Hid ((⟨(qtxt q).toArray⟩ : ByteArray) = (⟨#[45]⟩ ++ D1) ++ (⟨#[47]⟩ ++ D2)) := by rw [Hid, HT.out, ← hu, if_neg hd]; exact ByteArray.ext (by simp [ByteArray.data_append])
      obtain ⟨cv, hcv⟩ : ∃ cv, cv = cmpV q.den 1 := ⟨_, rfl⟩
      have HC := hide hcv.symm
      have hcv0 : (cv != 0) = true := by
        have : cv ≠ 0 := by rw [hcv]; exact cmpV_ne hd
        simpa using this
      clear hcv
      clear hd hu HT
      go_wp2_with fail
      refine wp_region_tab 5 25 [IsV (.pointer (some ⟨w.heap.size, 2, none⟩)), IsV (.slice B' m' d'), IsN 1 1, IsV (.int .i64 cv), IsV (.bool true)] (From w2) (by kernel_rfl) (by kernel_rfl) (by kernel_rfl) rfl From.lasting (From.drew hF) ?_
      simp only [List.take_succ_cons, List.drop_succ_cons, List.take_nil, List.drop_nil]
      refine Tab.cons IsV.lasting (fun wx hx hd => ?_) (fun v13 => ?_)
      · skip
        clear hd
        intro KK hK
        go_simp
        exact hK.out _ _ rfl (Below.refl _ _)
      simp only [Act.put, List.setIfInBounds_toArray, List.set_cons_zero, List.set_cons_succ]
      refine Tab.cons IsV.lasting (fun wx hx hd => ?_) (fun v14 => ?_)
      · skip
        have e13 : v13 = _ := (hd _ (.head _) (by kernel_rfl) : (IsV (.pointer (some ⟨w.heap.size, 2, none⟩))) v13 wx)
        subst e13
        clear hd
        intro KK hK
        have hcell := (Q2.out.later hx).cells
        go_simp
        exact hK.out _ _ rfl (Below.refl _ _)
      simp only [Act.put, List.setIfInBounds_toArray, List.set_cons_zero, List.set_cons_succ]
      refine Tab.cons IsN.lasting (fun wx hx hd => ?_) (fun v15 => ?_)
      · skip
        clear hd
        intro KK hK
        go_simp
        refine (qone_ret _).mono ?_
        rintro e w' ⟨A9, rfl, h9, hb'⟩
        exact hK.out _ _ ⟨A9, 1, 1, rfl, h9, Nat.le_refl _⟩ hb'
      simp only [Act.put, List.setIfInBounds_toArray, List.set_cons_zero, List.set_cons_succ]
      refine Tab.cons IsV.lasting (fun wx hx hd => ?_) (fun v16 => ?_)
      · skip
        have e14 : v14 = _ := (hd _ (.tail _ (.head _)) (by kernel_rfl) : (IsV (.slice B' m' d')) v14 wx)
        subst e14
        obtain ⟨A15, n15, c15, rfl, h15, k15⟩ := (hd _ (.head _) (by kernel_rfl) : (IsN 1 1) v15 wx)
        clear hd
        intro KK hK
        go_simp
        have hct := cmp_any _ _ _ _ _ _ _ _ _ (E22.out.below hx.out) h15
        rw [val_limbs, val_limbs, HC.out] at hct
        refine hct.mono ?_
        rintro e w' ⟨rfl, hb'⟩
        exact hK.out _ _ rfl hb'
      simp only [Act.put, List.setIfInBounds_toArray, List.set_cons_zero, List.set_cons_succ]
      refine Tab.cons IsV.lasting (fun wx hx hd => ?_) (fun v17 => ?_)
      · skip
        have e16 : v16 = _ := (hd _ (.head _) (by kernel_rfl) : (IsV (.int .i64 cv)) v16 wx)
        subst e16
        clear hd
        intro KK hK
        go_simp
        exact hK.out _ _ rfl (Below.refl _ _)
      simp only [Act.put, List.setIfInBounds_toArray, List.set_cons_zero, List.set_cons_succ]
      refine Tab.nil fun wx hx hd => ?_
      have e17 : v17 = _ := (hd _ (.head _) : (IsV (.bool true)) v17 wx)
      subst e17
      clear hd
      have hc3 := (Q2.out.later hx).cells
      have hB3 := below_step hx.out hB2
      have hb24 := HB2.out.trans (hx.out.mono HB2.out.size)
      clear hc1
      go_wp2_with fail
      refine (HC2.out _ hb24).mono ?_
      rintro e w4 ⟨rfl, hb4⟩
      go_wp2
      go_ret
      exact ⟨by rw [HX.out]; rfl, below_step hb4 hB3⟩
  | false =>
    rcases hden with hd | hd
    · have HX : Hid ((⟨(qtxt q).toArray⟩ : ByteArray) = D1) := by rw [Hid, HT.out, ← hu, if_pos hd]; exact ByteArray.ext (by simp [ByteArray.data_append])
      have HC : Hid (cmpV q.den 1 = 0) := by rw [Hid, hd]; rfl
      clear hd hu HT
      go_wp2_with fail
      refine wp_region_tab 5 25 [IsV (.pointer (some ⟨w.heap.size, 2, none⟩)), IsV (.slice B' m' d'), IsN 1 1, IsV (.int .i64 0), IsV (.bool false)] (From w2) (by kernel_rfl) (by kernel_rfl) (by kernel_rfl) rfl From.lasting (From.drew hF) ?_
      simp only [List.take_succ_cons, List.drop_succ_cons, List.take_nil, List.drop_nil]
      refine Tab.cons IsV.lasting (fun wx hx hd => ?_) (fun v13 => ?_)
      · skip
        clear hd
        intro KK hK
        go_simp
        exact hK.out _ _ rfl (Below.refl _ _)
      simp only [Act.put, List.setIfInBounds_toArray, List.set_cons_zero, List.set_cons_succ]
      refine Tab.cons IsV.lasting (fun wx hx hd => ?_) (fun v14 => ?_)
      · skip
        have e13 : v13 = _ := (hd _ (.head _) (by kernel_rfl) : (IsV (.pointer (some ⟨w.heap.size, 2, none⟩))) v13 wx)
        subst e13
        clear hd
        intro KK hK
        have hcell := (Q2.out.later hx).cells
        go_simp
        exact hK.out _ _ rfl (Below.refl _ _)
      simp only [Act.put, List.setIfInBounds_toArray, List.set_cons_zero, List.set_cons_succ]
      refine Tab.cons IsN.lasting (fun wx hx hd => ?_) (fun v15 => ?_)
      · skip
        clear hd
        intro KK hK
        go_simp
        refine (qone_ret _).mono ?_
        rintro e w' ⟨A9, rfl, h9, hb'⟩
        exact hK.out _ _ ⟨A9, 1, 1, rfl, h9, Nat.le_refl _⟩ hb'
      simp only [Act.put, List.setIfInBounds_toArray, List.set_cons_zero, List.set_cons_succ]
      refine Tab.cons IsV.lasting (fun wx hx hd => ?_) (fun v16 => ?_)
      · skip
        have e14 : v14 = _ := (hd _ (.tail _ (.head _)) (by kernel_rfl) : (IsV (.slice B' m' d')) v14 wx)
        subst e14
        obtain ⟨A15, n15, c15, rfl, h15, k15⟩ := (hd _ (.head _) (by kernel_rfl) : (IsN 1 1) v15 wx)
        clear hd
        intro KK hK
        go_simp
        have hct := cmp_any _ _ _ _ _ _ _ _ _ (E22.out.below hx.out) h15
        rw [val_limbs, val_limbs, HC.out] at hct
        refine hct.mono ?_
        rintro e w' ⟨rfl, hb'⟩
        exact hK.out _ _ rfl hb'
      simp only [Act.put, List.setIfInBounds_toArray, List.set_cons_zero, List.set_cons_succ]
      refine Tab.cons IsV.lasting (fun wx hx hd => ?_) (fun v17 => ?_)
      · skip
        have e16 : v16 = _ := (hd _ (.head _) (by kernel_rfl) : (IsV (.int .i64 0)) v16 wx)
        subst e16
        clear hd
        intro KK hK
        go_simp
        exact hK.out _ _ rfl (Below.refl _ _)
      simp only [Act.put, List.setIfInBounds_toArray, List.set_cons_zero, List.set_cons_succ]
      refine Tab.nil fun wx hx hd => ?_
      have e17 : v17 = _ := (hd _ (.head _) : (IsV (.bool false)) v17 wx)
      subst e17
      clear hd
      have hc3 := (Q2.out.later hx).cells
      have hB3 := below_step hx.out hB2
      have hb24 := HB2.out.trans (hx.out.mono HB2.out.size)
      clear hc1
      go_wp2
      go_ret
      exact ⟨by rw [HX.out]; rfl, hB3⟩
    · have HX : Hid ((⟨(qtxt q).toArray⟩ : ByteArray) = D1 ++ (⟨#[47]⟩ ++ D2)) := by rw [Hid, HT.out, ← hu, if_neg hd]; exact ByteArray.ext (by simp [ByteArray.data_append])
      obtain ⟨cv, hcv⟩ : ∃ cv, cv = cmpV q.den 1 := ⟨_, rfl⟩
      have HC := hide hcv.symm
      have hcv0 : (cv != 0) = true := by
        have : cv ≠ 0 := by rw [hcv]; exact cmpV_ne hd
        simpa using this
      clear hcv
      clear hd hu HT
      go_wp2_with fail
      refine wp_region_tab 5 25 [IsV (.pointer (some ⟨w.heap.size, 2, none⟩)), IsV (.slice B' m' d'), IsN 1 1, IsV (.int .i64 cv), IsV (.bool true)] (From w2) (by kernel_rfl) (by kernel_rfl) (by kernel_rfl) rfl From.lasting (From.drew hF) ?_
      simp only [List.take_succ_cons, List.drop_succ_cons, List.take_nil, List.drop_nil]
      refine Tab.cons IsV.lasting (fun wx hx hd => ?_) (fun v13 => ?_)
      · skip
        clear hd
        intro KK hK
        go_simp
        exact hK.out _ _ rfl (Below.refl _ _)
      simp only [Act.put, List.setIfInBounds_toArray, List.set_cons_zero, List.set_cons_succ]
      refine Tab.cons IsV.lasting (fun wx hx hd => ?_) (fun v14 => ?_)
      · skip
        have e13 : v13 = _ := (hd _ (.head _) (by kernel_rfl) : (IsV (.pointer (some ⟨w.heap.size, 2, none⟩))) v13 wx)
        subst e13
        clear hd
        intro KK hK
        have hcell := (Q2.out.later hx).cells
        go_simp
        exact hK.out _ _ rfl (Below.refl _ _)
      simp only [Act.put, List.setIfInBounds_toArray, List.set_cons_zero, List.set_cons_succ]
      refine Tab.cons IsN.lasting (fun wx hx hd => ?_) (fun v15 => ?_)
      · skip
        clear hd
        intro KK hK
        go_simp
        refine (qone_ret _).mono ?_
        rintro e w' ⟨A9, rfl, h9, hb'⟩
        exact hK.out _ _ ⟨A9, 1, 1, rfl, h9, Nat.le_refl _⟩ hb'
      simp only [Act.put, List.setIfInBounds_toArray, List.set_cons_zero, List.set_cons_succ]
      refine Tab.cons IsV.lasting (fun wx hx hd => ?_) (fun v16 => ?_)
      · skip
        have e14 : v14 = _ := (hd _ (.tail _ (.head _)) (by kernel_rfl) : (IsV (.slice B' m' d')) v14 wx)
        subst e14
        obtain ⟨A15, n15, c15, rfl, h15, k15⟩ := (hd _ (.head _) (by kernel_rfl) : (IsN 1 1) v15 wx)
        clear hd
        intro KK hK
        go_simp
        have hct := cmp_any _ _ _ _ _ _ _ _ _ (E22.out.below hx.out) h15
        rw [val_limbs, val_limbs, HC.out] at hct
        refine hct.mono ?_
        rintro e w' ⟨rfl, hb'⟩
        exact hK.out _ _ rfl hb'
      simp only [Act.put, List.setIfInBounds_toArray, List.set_cons_zero, List.set_cons_succ]
      refine Tab.cons IsV.lasting (fun wx hx hd => ?_) (fun v17 => ?_)
      · skip
        have e16 : v16 = _ := (hd _ (.head _) (by kernel_rfl) : (IsV (.int .i64 cv)) v16 wx)
        subst e16
        clear hd
        intro KK hK
        go_simp
        exact hK.out _ _ rfl (Below.refl _ _)
      simp only [Act.put, List.setIfInBounds_toArray, List.set_cons_zero, List.set_cons_succ]
      refine Tab.nil fun wx hx hd => ?_
      have e17 : v17 = _ := (hd _ (.head _) : (IsV (.bool true)) v17 wx)
      subst e17
      clear hd
      have hc3 := (Q2.out.later hx).cells
      have hB3 := below_step hx.out hB2
      have hb24 := HB2.out.trans (hx.out.mono HB2.out.size)
      clear hc1
      go_wp2_with fail
      refine (HC2.out _ hb24).mono ?_
      rintro e w4 ⟨rfl, hb4⟩
      go_wp2
      go_ret
      exact ⟨by rw [HX.out]; rfl, below_step hb4 hB3⟩
set_option maxHeartbeats 4000000 in
set_option maxRecDepth 10000 in
theorem rqtext_any (s : Bool) (A : Option Addr) (n c : Nat) (B : Option Addr) (m d : Nat) (q : Rat) (K : Nat) (w : World) (h : RawQ w s A n c B m d q K) (hK1 : 1 ≤ K) (hK : K ≤ 1000) :
    Calls Tryd.prog 15 #[.agg #[.bool s, .slice A n c, .slice B m d]] w (Makes (.string ⟨(qtxt q).toArray⟩) w) := by
  obtain ⟨W0, hW0, hS, q1⟩ := box1 w s A n c B m d
  have hr := h.below hS
  have HW := hide hW0
  clear hW0 h
  go_enter Tryd.func15, Tryd.ntmps15
  go_wp2_with fail
  rw [← HW.out]
  refine (rtrim_q _ _ _ _ _ _ _ _ K _ hr hK1 (by omega)).mono ?_
  rintro e w1 ⟨A', n', c', B', m', d', rfl, hcan, hb1⟩
  have q11 := q1.below hb1
  have hcg := q11.cells
  have hfg := q11.free
  have ho := only3 w1 w.heap.size (.bool (qneg q)) (.slice A' n' c') (.slice B' m' d')
  have hcans := hcan.far ho q11.noNum
  have q1s := q11.store3 (qneg q) A' n' c' B' m' d'
  have hBs := below3 (below_step hb1 hS) (Nat.le_refl _) (.bool (qneg q)) (.slice A' n' c') (.slice B' m' d')
  obtain ⟨W, hW⟩ : ∃ W, W = ((w1.setCell ⟨w.heap.size, 0, none⟩ (.bool (qneg q))).setCell ⟨w.heap.size, 1, none⟩ (.slice A' n' c')).setCell ⟨w.heap.size, 2, none⟩ (.slice B' m' d') := ⟨_, rfl⟩
  have HWS := hide hW
  rw [← hW] at hcans q1s hBs
  have e1 := hcans.num
  have e2 := hcans.den
  have hcl := hcans.hn
  have hcm := hcans.hm
  have hl1 := txt_short (K := K) e1.len hcl hK1
  have hl2 := txt_short (K := K) e2.len hcm hK1
  obtain ⟨D1, hD1⟩ : ∃ D : ByteArray, D = ⟨(dec q.num.natAbs).toArray⟩ := ⟨_, rfl⟩
  obtain ⟨D2, hD2⟩ : ∃ D : ByteArray, D = ⟨(dec q.den).toArray⟩ := ⟨_, rfl⟩
  have hcall := rtext_any A' n' c' _ W e1 (by omega)
  rw [val_limbs, ← hD1] at hcall
  have hcall2 : ∀ w', Below W.heap.size W w' → Calls Tryd.prog 9 #[.slice B' m' d'] w' (Makes (.string D2) w') := fun w' hb => by
    have := rtext_any B' m' d' _ w' (e2.below hb) (by omega)
    rwa [val_limbs, ← hD2] at this
  rw [← hD1] at hl1
  rw [← hD2] at hl2
  have HC2 := hide hcall2
  have HT := hide (qtxt_bytes q)
  rw [← hD1, ← hD2] at HT
  have HCS := hide hcall
  have E2 := hide e2
  have hl1' : D1.size ≤ 10000 := by omega
  have hl2' : D2.size ≤ 10000 := by omega
  clear hW hr q1 hS hb1 hcan ho hcans hcall hcall2 hD1 hD2 hl1 hl2 e1 e2 hcl hcm
  go_wp2_with fail
  rw [← HWS.out]
  refine HCS.out.mono ?_
  rintro e w2 ⟨rfl, hb2⟩
  have Q2 := hide (q1s.below hb2)
  have hc1 := Q2.out.cells
  have hB2 := below_step hb2 hBs
  have hz2 := Q2.out.2
  have E22 := hide (E2.out.below hb2)
  have HB2 := hide hb2
  clear hcg hfg q11 q1s hBs HWS HCS hb2
  obtain ⟨u, hu⟩ : ∃ u, u = qneg q := ⟨_, rfl⟩
  rw [← hu] at hc1 Q2
  have hden : q.den = 1 ∨ q.den ≠ 1 := by omega
  have hF := From.refl w2
  cases u with
  | true =>
    have hsz : 1 + D1.size ≤ 10001 := by omega
    rcases hden with hd | hd
    · have HX : Hid ((⟨(qtxt q).toArray⟩ : ByteArray) = ⟨#[45]⟩ ++ D1) := by rw [Hid, HT.out, ← hu, if_pos hd]; exact ByteArray.ext (by simp [ByteArray.data_append])
      have HC : Hid (decide (limbs q.den = limbs 1) = true) := by
        rw [Hid]
        rw [hd]; simp
      clear hd hu HT
      go_wp2_with fail
      refine (rsame_any _ _ _ _ _ _ _ _ (k := limbs 1) (Rd.upAlloc E22.out) (rd_one _ _ rfl)).mono ?_
      rw [HC.out]
      rintro e w3 ⟨rfl, hb3⟩
      have hb23 := below_step hb3 (below_alloc w2 (.cells #[.int .u32 1] 40))
      have hc3 := (Q2.out.below hb23).cells
      have hB3 := below_step hb23 hB2
      have hb24 := HB2.out.trans (hb23.mono HB2.out.size)
      clear hc1 hb3
      go_wp2
      go_ret
      exact ⟨by rw [HX.out]; rfl, hB3⟩
    · have HX : Hid ((⟨(qtxt q).toArray⟩ : ByteArray) = (⟨#[45]⟩ ++ D1) ++ (⟨#[47]⟩ ++ D2)) := by rw [Hid, HT.out, ← hu, if_neg hd]; exact ByteArray.ext (by simp [ByteArray.data_append])
      have HC : Hid (decide (limbs q.den = limbs 1) = false) := by
        rw [Hid]
        refine decide_eq_false (fun h => hd ?_)
        have := congrArg val h
        rwa [val_limbs, val_limbs] at this
      clear hd hu HT
      go_wp2_with fail
      refine (rsame_any _ _ _ _ _ _ _ _ (k := limbs 1) (Rd.upAlloc E22.out) (rd_one _ _ rfl)).mono ?_
      rw [HC.out]
      rintro e w3 ⟨rfl, hb3⟩
      have hb23 := below_step hb3 (below_alloc w2 (.cells #[.int .u32 1] 40))
      have hc3 := (Q2.out.below hb23).cells
      have hB3 := below_step hb23 hB2
      have hb24 := HB2.out.trans (hb23.mono HB2.out.size)
      clear hc1 hb3
      go_wp2_with fail
      refine (HC2.out _ hb24).mono ?_
      rintro e w4 ⟨rfl, hb4⟩
      go_wp2
      go_ret
      exact ⟨by rw [HX.out]; first | rfl | (simp only [← ByteArray.append_assoc]; rfl), below_step hb4 hB3⟩
  | false =>
    rcases hden with hd | hd
    · have HX : Hid ((⟨(qtxt q).toArray⟩ : ByteArray) = D1) := by rw [Hid, HT.out, ← hu, if_pos hd]; exact ByteArray.ext (by simp [ByteArray.data_append])
      have HC : Hid (decide (limbs q.den = limbs 1) = true) := by
        rw [Hid]
        rw [hd]; simp
      clear hd hu HT
      go_wp2_with fail
      refine (rsame_any _ _ _ _ _ _ _ _ (k := limbs 1) (Rd.upAlloc E22.out) (rd_one _ _ rfl)).mono ?_
      rw [HC.out]
      rintro e w3 ⟨rfl, hb3⟩
      have hb23 := below_step hb3 (below_alloc w2 (.cells #[.int .u32 1] 40))
      have hc3 := (Q2.out.below hb23).cells
      have hB3 := below_step hb23 hB2
      have hb24 := HB2.out.trans (hb23.mono HB2.out.size)
      clear hc1 hb3
      go_wp2
      go_ret
      exact ⟨by rw [HX.out]; rfl, hB3⟩
    · have HX : Hid ((⟨(qtxt q).toArray⟩ : ByteArray) = D1 ++ (⟨#[47]⟩ ++ D2)) := by rw [Hid, HT.out, ← hu, if_neg hd]; exact ByteArray.ext (by simp [ByteArray.data_append])
      have HC : Hid (decide (limbs q.den = limbs 1) = false) := by
        rw [Hid]
        refine decide_eq_false (fun h => hd ?_)
        have := congrArg val h
        rwa [val_limbs, val_limbs] at this
      clear hd hu HT
      go_wp2_with fail
      refine (rsame_any _ _ _ _ _ _ _ _ (k := limbs 1) (Rd.upAlloc E22.out) (rd_one _ _ rfl)).mono ?_
      rw [HC.out]
      rintro e w3 ⟨rfl, hb3⟩
      have hb23 := below_step hb3 (below_alloc w2 (.cells #[.int .u32 1] 40))
      have hc3 := (Q2.out.below hb23).cells
      have hB3 := below_step hb23 hB2
      have hb24 := HB2.out.trans (hb23.mono HB2.out.size)
      clear hc1 hb3
      go_wp2_with fail
      refine (HC2.out _ hb24).mono ?_
      rintro e w4 ⟨rfl, hb4⟩
      go_wp2
      go_ret
      exact ⟨by rw [HX.out]; first | rfl | (simp only [← ByteArray.append_assoc]; rfl), below_step hb4 hB3⟩
end Go.Proofs.YtfggecdgnidhfaaDoor
