/- The text of a rational: the walks of Text on both sides. -/
import Derived.Test.YtfggecdgnidhfaaDoorDecM
import Derived.Test.YtfggecdgnidhfaaDoorRatMath
import Derived.Lib.IndexMore
import Derived.Lib.Strings
import Derived.Test.YtfggecdgnidhfaaDoorText
import Derived.Test.YtfggecdgnidhfaaDoorRefText
import Derived.Test.YtfggecdgnidhfaaDoorRatFloor
import Derived.Test.YtfggecdgnidhfaaDoorMonoQ
import Derived.Test.YtfggecdgnidhfaaDoorLawTexts
namespace Go.Proofs.YtfggecdgnidhfaaDoor
/-- The text of a rational. -/
def qtxt (q : Rat) : List UInt8 := (if qneg q then [45] else []) ++ (dec q.num.natAbs ++ (if q.den = 1 then [] else 47 :: dec q.den))
def isNeg (l : List UInt8) : Bool := l.head? == some 45
def bodyT (l : List UInt8) : List UInt8 := if isNeg l then l.drop 1 else l
def slash : List UInt8 → Nat
  | [] => 0
  | c :: l => if c = 47 then 0 else slash l + 1
def topT (l : List UInt8) : List UInt8 := (bodyT l).take (slash (bodyT l))
def botT (l : List UInt8) : List UInt8 := (bodyT l).drop (slash (bodyT l) + 1)
def hasB (l : List UInt8) : Bool := decide (slash (bodyT l) < (bodyT l).length)
def wellQ (l : List UInt8) : Prop := wellD (topT l) ∧ (hasB l = true → wellD (botT l))
def denT (l : List UInt8) : Nat := if hasB l then pval (botT l) else 1
def valQ (l : List UInt8) : Rat := ratOf (isNeg l) (pval (topT l)) (denT l)
theorem slash_le : ∀ l, slash l ≤ l.length
  | [] => Nat.le_refl _
  | c :: l => by
    unfold slash
    split
    · exact Nat.zero_le _
    · simpa using slash_le l
theorem slash_at : ∀ l, slash l < l.length → l.getD (slash l) 0 = 47
  | [], h => by simp [slash] at h
  | c :: l, h => by
    unfold slash at h ⊢
    split
    · next h1 => simpa using h1
    · next h1 =>
      rw [if_neg h1] at h
      have := slash_at l (by simpa using h)
      simpa using this
theorem slash_no : ∀ l j, j < slash l → l.getD j 0 ≠ 47
  | [], j, h => by simp [slash] at h
  | c :: l, j, h => by
    unfold slash at h
    split at h
    · omega
    · next h1 =>
      cases j with
      | zero => simpa using h1
      | succ j =>
        have := slash_no l j (by omega)
        simpa using this
theorem slash_app : ∀ (l m : List UInt8), (∀ c ∈ l, c ≠ 47) → slash (l ++ m) = l.length + slash m
  | [], m, _ => by simp
  | c :: l, m, h => by
    have h1 := slash_app l m fun x hx => h x (List.mem_cons_of_mem _ hx)
    rw [List.cons_append]
    unfold slash
    rw [if_neg (h c List.mem_cons_self), h1]
    cases m <;> simp [slash] <;> omega
theorem index_slash : ∀ l, Lib.index l [47] = if slash l < l.length then (slash l : Int) else -1
  | [] => rfl
  | c :: l => by
    have h1 := index_slash l
    unfold Lib.index slash
    by_cases h : c = 47
    · subst h
      simp
    · have h2 : List.isPrefixOf [47] (c :: l) = false := by
        simp only [List.isPrefixOf, Bool.and_true]
        simpa using fun h3 => h h3.symm
      rw [h2, if_neg (by decide), if_neg h, h1]
      by_cases h3 : slash l < l.length
      · rw [if_pos h3, if_neg (by simp <;> omega), if_pos (by simpa using h3)]
        simp
      · rw [if_neg h3, if_neg (show ¬ slash l + 1 < (c :: l).length by simpa using h3)]
        rfl
theorem cut_slash (l : List UInt8) : Lib.cut l [47] = (l.take (slash l), l.drop (slash l + 1), decide (slash l < l.length)) := by
  unfold Lib.cut
  rw [index_slash]
  by_cases h : slash l < l.length
  · rw [if_pos h, if_pos (by omega), decide_eq_true h]
    simp
  · have h1 : slash l = l.length := Nat.le_antisymm (slash_le l) (by omega)
    rw [if_neg h, if_neg (by decide), decide_eq_false h, h1]
    simp
theorem hasPrefix_neg (l : List UInt8) : Lib.hasPrefix l [45] = isNeg l := by
  unfold Lib.hasPrefix isNeg
  cases l with
  | nil => rfl
  | cons c l =>
    simp only [List.isPrefixOf, Bool.and_true, List.head?_cons]
    by_cases h : c = 45
    · subst h; rfl
    · have h1 : ((45 : UInt8) == c) = false := by simpa using fun h3 => h h3.symm
      have h2 : (some c == some (45 : UInt8)) = false := by simpa using h
      rw [h1, h2]
theorem trimPrefix_neg (l : List UInt8) : Lib.trimPrefix l [45] = bodyT l := by
  unfold Lib.trimPrefix bodyT
  rw [hasPrefix_neg]
  rfl
theorem bodyT_len (l : List UInt8) : (bodyT l).length ≤ l.length := by
  unfold bodyT
  split
  · simp
  · exact Nat.le_refl _
theorem topT_len (l : List UInt8) : (topT l).length ≤ l.length := by
  have := bodyT_len l
  unfold topT
  rw [List.length_take]
  omega
theorem botT_len (l : List UInt8) : (botT l).length ≤ l.length := by
  have := bodyT_len l
  unfold botT
  rw [List.length_drop]
  omega
theorem dec_not (N : Nat) {x : UInt8} (hx : x.toNat < 48) : ∀ c ∈ dec N, c ≠ x := by
  intro c hc h
  have := (dec_isDg N c hc).1
  rw [h] at this
  omega
theorem isNeg_dec (N : Nat) (m : List UInt8) : isNeg (dec N ++ m) = false := by
  have h0 := (dec_well N).1
  have h1 := dec_not N (x := 45) (by decide)
  unfold isNeg
  generalize dec N = l at *
  cases l with
  | nil => exact absurd rfl h0
  | cons c l => simpa using h1 c List.mem_cons_self
theorem text_neg (q : Rat) : isNeg (qtxt q) = qneg q := by
  unfold qtxt
  by_cases h : qneg q = true
  · rw [if_pos h, h]
    rfl
  · rw [if_neg h, List.nil_append, isNeg_dec]
    simpa using h
theorem text_body (q : Rat) : bodyT (qtxt q) = dec q.num.natAbs ++ (if q.den = 1 then [] else 47 :: dec q.den) := by
  unfold bodyT
  rw [text_neg]
  unfold qtxt
  by_cases h : qneg q = true
  · rw [if_pos h, if_pos h]
    rfl
  · rw [if_neg h, if_neg h]
    rfl
theorem text_parse (q : Rat) : wellQ (qtxt q) ∧ valQ (qtxt q) = q := by
  have hb := text_body q
  have hs := slash_app (dec q.num.natAbs) (if q.den = 1 then [] else 47 :: dec q.den) (dec_not _ (by decide))
  rw [← hb] at hs
  by_cases hd : q.den = 1
  · rw [if_pos hd] at hs hb
    simp only [slash, Nat.add_zero, List.append_nil] at hs hb
    have ht : topT (qtxt q) = dec q.num.natAbs := by
      unfold topT
      rw [hs, hb, List.take_of_length_le (Nat.le_refl _)]
    have hh : hasB (qtxt q) = false := by
      unfold hasB
      rw [hs, hb]
      simp
    refine ⟨⟨ht ▸ dec_well _, fun h => by rw [hh] at h; cases h⟩, ?_⟩
    unfold valQ denT
    rw [hh, ht, pval_dec, text_neg]
    have := ratOf_self q
    rw [hd] at this
    exact this
  · rw [if_neg hd] at hs hb
    have hz : slash (47 :: dec q.den) = 0 := by unfold slash; rw [if_pos rfl]
    rw [hz, Nat.add_zero] at hs
    have ht : topT (qtxt q) = dec q.num.natAbs := by
      unfold topT
      rw [hs, hb, List.take_append_of_le_length (Nat.le_refl _), List.take_of_length_le (Nat.le_refl _)]
    have hh : hasB (qtxt q) = true := by
      unfold hasB
      rw [hs, hb]
      simp
    have hbt : botT (qtxt q) = dec q.den := by
      unfold botT
      rw [hs, hb, List.drop_append, List.drop_of_length_le (by omega)]
      simp
    refine ⟨⟨ht ▸ dec_well _, fun _ => hbt ▸ dec_well _⟩, ?_⟩
    unfold valQ denT
    rw [hh, ht, hbt, pval_dec, pval_dec, text_neg]
    exact ratOf_self q
theorem qtxt_len (q : Rat) : (qtxt q).length ≤ (dec q.num.natAbs).length + (dec q.den).length + 2 := by
  unfold qtxt
  split <;> split <;> simp <;> omega
open Go.RowKit
theorem txt_short {N n K : Nat} (h : (limbs N).length = n) (hn : n ≤ K) (hK : 1 ≤ K) : (⟨(dec N).toArray⟩ : ByteArray).size ≤ 10 * K := by
  have h1 : N < 4294967296 ^ K := Nat.lt_of_lt_of_le (lt_pow_length N) (Nat.pow_le_pow_right (by decide) (by omega))
  have := dec_short h1 (by omega)
  simpa [ByteArray.size] using this
theorem qtxt_bytes (q : Rat) : (⟨(qtxt q).toArray⟩ : ByteArray) = (if qneg q then (⟨#[45]⟩ : ByteArray) ++ ⟨(dec q.num.natAbs).toArray⟩ else ⟨(dec q.num.natAbs).toArray⟩) ++ (if q.den = 1 then (⟨#[]⟩ : ByteArray) else ⟨#[47]⟩ ++ ⟨(dec q.den).toArray⟩) := by
  apply ByteArray.ext
  unfold qtxt
  split <;> split <;> simp [ByteArray.data_append]
theorem cmpV_ne {x y : Nat} (h : x ≠ y) : cmpV x y ≠ 0 := by
  unfold cmpV
  split
  · decide
  · split <;> omega
set_option maxHeartbeats 4000000 in
set_option maxRecDepth 10000 in
theorem qtext_any (s : Bool) (A : Option Addr) (n c : Nat) (B : Option Addr) (m d : Nat) (q : Rat) (K : Nat) (w : World) (h : RawQ w s A n c B m d q K) (hK1 : 1 ≤ K) (hK : K ≤ 1000) :
    Calls Tryd.prog 13 #[.agg #[.bool s, .slice A n c, .slice B m d]] w (Makes (.string ⟨(qtxt q).toArray⟩) w) := by
  obtain ⟨W0, hW0, hS, q1⟩ := box1 w s A n c B m d
  have hr := h.below hS
  have HW := hide hW0
  clear hW0 h
  go_enter Tryd.func13, Tryd.ntmps13
  go_wp2_with fail
  rw [← HW.out]
  refine (trim_q _ _ _ _ _ _ _ _ K _ hr hK1 (by omega)).mono ?_
  rintro e w1 ⟨A', n', c', B', m', d', rfl, hcan, hb1⟩
  have q11 := q1.below hb1
  have hcg := q11.cells
  have hfg := q11.free
  have ho := only3 w1 w.heap.size (.bool (qneg q)) (.slice A' n' c') (.slice B' m' d')
  have hcans := hcan.far ho q11.noNum
  have q1s := q11.store3 (qneg q) A' n' c' B' m' d'
  have hBs := below3 (below_step hb1 hS) (Nat.le_refl _) (.bool (qneg q)) (.slice A' n' c') (.slice B' m' d')
  obtain ⟨W, hW⟩ : ∃ W, W = ((w1.setCell ⟨w.heap.size, 0, none⟩ (.bool (qneg q))).setCell ⟨w.heap.size, 1, none⟩ (.slice A' n' c')).setCell ⟨w.heap.size, 2, none⟩ (.slice B' m' d') := ⟨_, rfl⟩
  have HWS := hide hW
  rw [← hW] at hcans q1s hBs
  have e1 := hcans.num
  have e2 := hcans.den
  have hcl := hcans.hn
  have hcm := hcans.hm
  have hl1 := txt_short (K := K) e1.len hcl hK1
  have hl2 := txt_short (K := K) e2.len hcm hK1
  obtain ⟨D1, hD1⟩ : ∃ D : ByteArray, D = ⟨(dec q.num.natAbs).toArray⟩ := ⟨_, rfl⟩
  obtain ⟨D2, hD2⟩ : ∃ D : ByteArray, D = ⟨(dec q.den).toArray⟩ := ⟨_, rfl⟩
  have hcall := text_any A' n' c' _ W e1 (by omega)
  rw [val_limbs, ← hD1] at hcall
  have hcall2 : ∀ w', Below W.heap.size W w' → Calls Tryd.prog 7 #[.slice B' m' d'] w' (Makes (.string D2) w') := fun w' hb => by
    have := text_any B' m' d' _ w' (e2.below hb) (by omega)
    rwa [val_limbs, ← hD2] at this
  rw [← hD1] at hl1
  rw [← hD2] at hl2
  have HC2 := hide hcall2
  have HT := hide (qtxt_bytes q)
  rw [← hD1, ← hD2] at HT
  have HCS := hide hcall
  have E2 := hide e2
  have hl1' : D1.size ≤ 10000 := by omega
  have hl2' : D2.size ≤ 10000 := by omega
  clear hW hr q1 hS hb1 hcan ho hcans hcall hcall2 hD1 hD2 hl1 hl2 e1 e2 hcl hcm
  go_wp2_with fail
  rw [← HWS.out]
  refine HCS.out.mono ?_
  rintro e w2 ⟨rfl, hb2⟩
  have Q2 := hide (q1s.below hb2)
  have hc1 := Q2.out.cells
  have hB2 := below_step hb2 hBs
  have hz2 := Q2.out.2
  have E22 := hide (E2.out.below hb2)
  have HB2 := hide hb2
  clear hcg hfg q11 q1s hBs HWS HCS hb2
  obtain ⟨u, hu⟩ : ∃ u, u = qneg q := ⟨_, rfl⟩
  rw [← hu] at hc1 Q2
  have hden : q.den = 1 ∨ q.den ≠ 1 := by omega
  have hF := From.refl w2
  cases u with
  | true =>
    have hsz : 1 + D1.size ≤ 10001 := by omega
    rcases hden with hd | hd
    · have HX : Hid ((⟨(qtxt q).toArray⟩ : ByteArray) = ⟨#[45]⟩ ++ D1) := by rw [Hid, HT.out, ← hu, if_pos hd]; exact ByteArray.ext (by simp [ByteArray.data_append])
      have HC : Hid (cmpV q.den 1 = 0) := by rw [Hid, hd]; rfl
      clear hd hu HT
      go_wp2_with fail
      refine wp_region_tab 5 25 [IsV (.pointer (some ⟨w.heap.size, 2, none⟩)), IsV (.slice B' m' d'), IsN 1 1, IsV (.int .i64 0), IsV (.bool false)] (From w2) (by kernel_rfl) (by kernel_rfl) (by kernel_rfl) rfl From.lasting (From.drew hF) ?_
      simp only [List.take_succ_cons, List.drop_succ_cons, List.take_nil, List.drop_nil]
      refine Tab.cons IsV.lasting (fun wx hx hd => ?_) (fun v13 => ?_)
      · skip
        clear hd
        intro KK hK
        go_simp
        exact hK.out _ _ rfl (Below.refl _ _)
      simp only [Act.put, List.setIfInBounds_toArray, List.set_cons_zero, List.set_cons_succ]
      refine Tab.cons IsV.lasting (fun wx hx hd => ?_) (fun v14 => ?_)
      · skip
        have e13 : v13 = _ := (hd _ (.head _) (by kernel_rfl) : (IsV (.pointer (some ⟨w.heap.size, 2, none⟩))) v13 wx)
        subst e13
        clear hd
        intro KK hK
        have hcell := (Q2.out.later hx).cells
        go_simp
        exact hK.out _ _ rfl (Below.refl _ _)
      simp only [Act.put, List.setIfInBounds_toArray, List.set_cons_zero, List.set_cons_succ]
      refine Tab.cons IsN.lasting (fun wx hx hd => ?_) (fun v15 => ?_)
      · skip
        clear hd
        intro KK hK
        go_simp
        refine (qone_ret _).mono ?_
        rintro e w' ⟨A9, rfl, h9, hb'⟩
        exact hK.out _ _ ⟨A9, 1, 1, rfl, h9, Nat.le_refl _⟩ hb'
      simp only [Act.put, List.setIfInBounds_toArray, List.set_cons_zero, List.set_cons_succ]
      refine Tab.cons IsV.lasting (fun wx hx hd => ?_) (fun v16 => ?_)
      · skip
        have e14 : v14 = _ := (hd _ (.tail _ (.head _)) (by kernel_rfl) : (IsV (.slice B' m' d')) v14 wx)
        subst e14
        obtain ⟨A15, n15, c15, rfl, h15, k15⟩ := (hd _ (.head _) (by kernel_rfl) : (IsN 1 1) v15 wx)
        clear hd
        intro KK hK
        go_simp
        have hct := cmp_any _ _ _ _ _ _ _ _ _ (E22.out.below hx.out) h15
        rw [val_limbs, val_limbs, HC.out] at hct
        refine hct.mono ?_
        rintro e w' ⟨rfl, hb'⟩
        exact hK.out _ _ rfl hb'
      simp only [Act.put, List.setIfInBounds_toArray, List.set_cons_zero, List.set_cons_succ]
      refine Tab.cons IsV.lasting (fun wx hx hd => ?_) (fun v17 => ?_)
      · skip
        have e16 : v16 = _ := (hd _ (.head _) (by kernel_rfl) : (IsV (.int .i64 0)) v16 wx)
        subst e16
        clear hd
        intro KK hK
        go_simp
        exact hK.out _ _ rfl (Below.refl _ _)
      simp only [Act.put, List.setIfInBounds_toArray, List.set_cons_zero, List.set_cons_succ]
      refine Tab.nil fun wx hx hd => ?_
      have e17 : v17 = _ := (hd _ (.head _) : (IsV (.bool false)) v17 wx)
      subst e17
      clear hd
      have hc3 := (Q2.out.later hx).cells
      have hB3 := below_step hx.out hB2
      have hb24 := HB2.out.trans (hx.out.mono HB2.out.size)
      clear hc1
      go_wp2
      go_ret
      exact ⟨by rw [HX.out]; rfl, hB3⟩
    · have HX : Hid ((⟨(qtxt q).toArray⟩ : ByteArray) = (⟨#[45]⟩ ++ D1) ++ (⟨#[47]⟩ ++ D2)) := by rw [Hid, HT.out, ← hu, if_neg hd]; exact ByteArray.ext (by simp [ByteArray.data_append])
      obtain ⟨cv, hcv⟩ : ∃ cv, cv = cmpV q.den 1 := ⟨_, rfl⟩
      have HC := hide hcv.symm
      have hcv0 : (cv != 0) = true := by
        have : cv ≠ 0 := by rw [hcv]; exact cmpV_ne hd
        simpa using this
      clear hcv
      clear hd hu HT
      go_wp2_with fail
      refine wp_region_tab 5 25 [IsV (.pointer (some ⟨w.heap.size, 2, none⟩)), IsV (.slice B' m' d'), IsN 1 1, IsV (.int .i64 cv), IsV (.bool true)] (From w2) (by kernel_rfl) (by kernel_rfl) (by kernel_rfl) rfl From.lasting (From.drew hF) ?_
      simp only [List.take_succ_cons, List.drop_succ_cons, List.take_nil, List.drop_nil]
      refine Tab.cons IsV.lasting (fun wx hx hd => ?_) (fun v13 => ?_)
      · skip
        clear hd
        intro KK hK
        go_simp
        exact hK.out _ _ rfl (Below.refl _ _)
      simp only [Act.put, List.setIfInBounds_toArray, List.set_cons_zero, List.set_cons_succ]
      refine Tab.cons IsV.lasting (fun wx hx hd => ?_) (fun v14 => ?_)
      · skip
        have e13 : v13 = _ := (hd _ (.head _) (by kernel_rfl) : (IsV (.pointer (some ⟨w.heap.size, 2, none⟩))) v13 wx)
        subst e13
        clear hd
        intro KK hK
        have hcell := (Q2.out.later hx).cells
        go_simp
        exact hK.out _ _ rfl (Below.refl _ _)
      simp only [Act.put, List.setIfInBounds_toArray, List.set_cons_zero, List.set_cons_succ]
      refine Tab.cons IsN.lasting (fun wx hx hd => ?_) (fun v15 => ?_)
      · skip
        clear hd
        intro KK hK
        go_simp
        refine (qone_ret _).mono ?_
        rintro e w' ⟨A9, rfl, h9, hb'⟩
        exact hK.out _ _ ⟨A9, 1, 1, rfl, h9, Nat.le_refl _⟩ hb'
      simp only [Act.put, List.setIfInBounds_toArray, List.set_cons_zero, List.set_cons_succ]
      refine Tab.cons IsV.lasting (fun wx hx hd => ?_) (fun v16 => ?_)
      · skip
        have e14 : v14 = _ := (hd _ (.tail _ (.head _)) (by kernel_rfl) : (IsV (.slice B' m' d')) v14 wx)
        subst e14
        obtain ⟨A15, n15, c15, rfl, h15, k15⟩ := (hd _ (.head _) (by kernel_rfl) : (IsN 1 1) v15 wx)
        clear hd
        intro KK hK
        go_simp
        have hct := cmp_any _ _ _ _ _ _ _ _ _ (E22.out.below hx.out) h15
        rw [val_limbs, val_limbs, HC.out] at hct
        refine hct.mono ?_
        rintro e w' ⟨rfl, hb'⟩
        exact hK.out _ _ rfl hb'
      simp only [Act.put, List.setIfInBounds_toArray, List.set_cons_zero, List.set_cons_succ]
      refine Tab.cons IsV.lasting (fun wx hx hd => ?_) (fun v17 => ?_)
      · skip
        have e16 : v16 = _ := (hd _ (.head _) (by kernel_rfl) : (IsV (.int .i64 cv)) v16 wx)
        subst e16
        clear hd
        intro KK hK
        go_simp
        exact hK.out _ _ rfl (Below.refl _ _)
      simp only [Act.put, List.setIfInBounds_toArray, List.set_cons_zero, List.set_cons_succ]
      refine Tab.nil fun wx hx hd => ?_
      have e17 : v17 = _ := (hd _ (.head _) : (IsV (.bool true)) v17 wx)
      subst e17
      clear hd
      have hc3 := (Q2.out.later hx).cells
      have hB3 := below_step hx.out hB2
      have hb24 := HB2.out.trans (hx.out.mono HB2.out.size)
      clear hc1
      go_wp2_with fail
      refine (HC2.out _ hb24).mono ?_
      rintro e w4 ⟨rfl, hb4⟩
      go_wp2
      go_ret
      exact ⟨by rw [HX.out]; rfl, below_step hb4 hB3⟩
  | false =>
    rcases hden with hd | hd
    · have HX : Hid ((⟨(qtxt q).toArray⟩ : ByteArray) = D1) := by rw [Hid, HT.out, ← hu, if_pos hd]; exact ByteArray.ext (by simp [ByteArray.data_append])
      have HC : Hid (cmpV q.den 1 = 0) := by rw [Hid, hd]; rfl
      clear hd hu HT
      go_wp2_with fail
      refine wp_region_tab 5 25 [IsV (.pointer (some ⟨w.heap.size, 2, none⟩)), IsV (.slice B' m' d'), IsN 1 1, IsV (.int .i64 0), IsV (.bool false)] (From w2) (by kernel_rfl) (by kernel_rfl) (by kernel_rfl) rfl From.lasting (From.drew hF) ?_
      simp only [List.take_succ_cons, List.drop_succ_cons, List.take_nil, List.drop_nil]
      refine Tab.cons IsV.lasting (fun wx hx hd => ?_) (fun v13 => ?_)
      · skip
        clear hd
        intro KK hK
        go_simp
        exact hK.out _ _ rfl (Below.refl _ _)
      simp only [Act.put, List.setIfInBounds_toArray, List.set_cons_zero, List.set_cons_succ]
      refine Tab.cons IsV.lasting (fun wx hx hd => ?_) (fun v14 => ?_)
      · skip
        have e13 : v13 = _ := (hd _ (.head _) (by kernel_rfl) : (IsV (.pointer (some ⟨w.heap.size, 2, none⟩))) v13 wx)
        subst e13
        clear hd
        intro KK hK
        have hcell := (Q2.out.later hx).cells
        go_simp
        exact hK.out _ _ rfl (Below.refl _ _)
      simp only [Act.put, List.setIfInBounds_toArray, List.set_cons_zero, List.set_cons_succ]
      refine Tab.cons IsN.lasting (fun wx hx hd => ?_) (fun v15 => ?_)
      · skip
        clear hd
        intro KK hK
        go_simp
        refine (qone_ret _).mono ?_
        rintro e w' ⟨A9, rfl, h9, hb'⟩
        exact hK.out _ _ ⟨A9, 1, 1, rfl, h9, Nat.le_refl _⟩ hb'
      simp only [Act.put, List.setIfInBounds_toArray, List.set_cons_zero, List.set_cons_succ]
      refine Tab.cons IsV.lasting (fun wx hx hd => ?_) (fun v16 => ?_)
      · skip
        have e14 : v14 = _ := (hd _ (.tail _ (.head _)) (by kernel_rfl) : (IsV (.slice B' m' d')) v14 wx)
        subst e14
        obtain ⟨A15, n15, c15, rfl, h15, k15⟩ := (hd _ (.head _) (by kernel_rfl) : (IsN 1 1) v15 wx)
        clear hd
        intro KK hK
        go_simp
        have hct := cmp_any _ _ _ _ _ _ _ _ _ (E22.out.below hx.out) h15
        rw [val_limbs, val_limbs, HC.out] at hct
        refine hct.mono ?_
        rintro e w' ⟨rfl, hb'⟩
        exact hK.out _ _ rfl hb'
      simp only [Act.put, List.setIfInBounds_toArray, List.set_cons_zero, List.set_cons_succ]
      refine Tab.cons IsV.lasting (fun wx hx hd => ?_) (fun v17 => ?_)
      · skip
        have e16 : v16 = _ := (hd _ (.head _) (by kernel_rfl) : (IsV (.int .i64 0)) v16 wx)
        subst e16
        clear hd
        intro KK hK
        go_simp
        exact hK.out _ _ rfl (Below.refl _ _)
      simp only [Act.put, List.setIfInBounds_toArray, List.set_cons_zero, List.set_cons_succ]
      refine Tab.nil fun wx hx hd => ?_
      have e17 : v17 = _ := (hd _ (.head _) : (IsV (.bool false)) v17 wx)
      subst e17
      clear hd
      have hc3 := (Q2.out.later hx).cells
      have hB3 := below_step hx.out hB2
      have hb24 := HB2.out.trans (hx.out.mono HB2.out.size)
      clear hc1
      go_wp2
      go_ret
      exact ⟨by rw [HX.out]; rfl, hB3⟩
    · have HX : Hid ((⟨(qtxt q).toArray⟩ : ByteArray) = D1 ++ (⟨#[47]⟩ ++ D2)) := by rw [Hid, HT.out, ← hu, if_neg hd]; exact ByteArray.ext (by simp [ByteArray.data_append])
      obtain ⟨cv, hcv⟩ : ∃ cv, cv = cmpV q.den 1 := ⟨_, rfl⟩
      have HC := hide hcv.symm
      have hcv0 : (cv != 0) = true := by
        have : cv ≠ 0 := by rw [hcv]; exact cmpV_ne hd
        simpa using this
      clear hcv
      clear hd hu HT
      go_wp2_with fail
      refine wp_region_tab 5 25 [IsV (.pointer (some ⟨w.heap.size, 2, none⟩)), IsV (.slice B' m' d'), IsN 1 1, IsV (.int .i64 cv), IsV (.bool true)] (From w2) (by kernel_rfl) (by kernel_rfl) (by kernel_rfl) rfl From.lasting (From.drew hF) ?_
      simp only [List.take_succ_cons, List.drop_succ_cons, List.take_nil, List.drop_nil]
      refine Tab.cons IsV.lasting (fun wx hx hd => ?_) (fun v13 => ?_)
      · skip
        clear hd
        intro KK hK
        go_simp
        exact hK.out _ _ rfl (Below.refl _ _)
      simp only [Act.put, List.setIfInBounds_toArray, List.set_cons_zero, List.set_cons_succ]
      refine Tab.cons IsV.lasting (fun wx hx hd => ?_) (fun v14 => ?_)
      · skip
        have e13 : v13 = _ := (hd _ (.head _) (by kernel_rfl) : (IsV (.pointer (some ⟨w.heap.size, 2, none⟩))) v13 wx)
        subst e13
        clear hd
        intro KK hK
        have hcell := (Q2.out.later hx).cells
        go_simp
        exact hK.out _ _ rfl (Below.refl _ _)
      simp only [Act.put, List.setIfInBounds_toArray, List.set_cons_zero, List.set_cons_succ]
      refine Tab.cons IsN.lasting (fun wx hx hd => ?_) (fun v15 => ?_)
      · skip
        clear hd
        intro KK hK
        go_simp
        refine (qone_ret _).mono ?_
        rintro e w' ⟨A9, rfl, h9, hb'⟩
        exact hK.out _ _ ⟨A9, 1, 1, rfl, h9, Nat.le_refl _⟩ hb'
      simp only [Act.put, List.setIfInBounds_toArray, List.set_cons_zero, List.set_cons_succ]
      refine Tab.cons IsV.lasting (fun wx hx hd => ?_) (fun v16 => ?_)
      · skip
        have e14 : v14 = _ := (hd _ (.tail _ (.head _)) (by kernel_rfl) : (IsV (.slice B' m' d')) v14 wx)
        subst e14
        obtain ⟨A15, n15, c15, rfl, h15, k15⟩ := (hd _ (.head _) (by kernel_rfl) : (IsN 1 1) v15 wx)
        clear hd
        intro KK hK
        go_simp
        have hct := cmp_any _ _ _ _ _ _ _ _ _ (E22.out.below hx.out) h15
        rw [val_limbs, val_limbs, HC.out] at hct
        refine hct.mono ?_
        rintro e w' ⟨rfl, hb'⟩
        exact hK.out _ _ rfl hb'
      simp only [Act.put, List.setIfInBounds_toArray, List.set_cons_zero, List.set_cons_succ]
      refine Tab.cons IsV.lasting (fun wx hx hd => ?_) (fun v17 => ?_)
      · skip
        have e16 : v16 = _ := (hd _ (.head _) (by kernel_rfl) : (IsV (.int .i64 cv)) v16 wx)
        subst e16
        clear hd
        intro KK hK
        go_simp
        exact hK.out _ _ rfl (Below.refl _ _)
      simp only [Act.put, List.setIfInBounds_toArray, List.set_cons_zero, List.set_cons_succ]
      refine Tab.nil fun wx hx hd => ?_
      have e17 : v17 = _ := (hd _ (.head _) : (IsV (.bool true)) v17 wx)
      subst e17
      clear hd
      have hc3 := (Q2.out.later hx).cells
      have hB3 := below_step hx.out hB2
      have hb24 := HB2.out.trans (hx.out.mono HB2.out.size)
      clear hc1
      go_wp2_with fail
      refine (HC2.out _ hb24).mono ?_
      rintro e w4 ⟨rfl, hb4⟩
      go_wp2
      go_ret
      exact ⟨by rw [HX.out]; rfl, below_step hb4 hB3⟩
set_option maxHeartbeats 4000000 in
set_option maxRecDepth 10000 in
theorem rqtext_any (s : Bool) (A : Option Addr) (n c : Nat) (B : Option Addr) (m d : Nat) (q : Rat) (K : Nat) (w : World) (h : RawQ w s A n c B m d q K) (hK1 : 1 ≤ K) (hK : K ≤ 1000) :
    Calls Tryd.prog 15 #[.agg #[.bool s, .slice A n c, .slice B m d]] w (Makes (.string ⟨(qtxt q).toArray⟩) w) := by
  obtain ⟨W0, hW0, hS, q1⟩ := box1 w s A n c B m d
  have hr := h.below hS
  have HW := hide hW0
  clear hW0 h
  go_enter Tryd.func15, Tryd.ntmps15
  go_wp2_with fail
  rw [← HW.out]
  refine (rtrim_q _ _ _ _ _ _ _ _ K _ hr hK1 (by omega)).mono ?_
  rintro e w1 ⟨A', n', c', B', m', d', rfl, hcan, hb1⟩
  have q11 := q1.below hb1
  have hcg := q11.cells
  have hfg := q11.free
  have ho := only3 w1 w.heap.size (.bool (qneg q)) (.slice A' n' c') (.slice B' m' d')
  have hcans := hcan.far ho q11.noNum
  have q1s := q11.store3 (qneg q) A' n' c' B' m' d'
  have hBs := below3 (below_step hb1 hS) (Nat.le_refl _) (.bool (qneg q)) (.slice A' n' c') (.slice B' m' d')
  obtain ⟨W, hW⟩ : ∃ W, W = ((w1.setCell ⟨w.heap.size, 0, none⟩ (.bool (qneg q))).setCell ⟨w.heap.size, 1, none⟩ (.slice A' n' c')).setCell ⟨w.heap.size, 2, none⟩ (.slice B' m' d') := ⟨_, rfl⟩
  have HWS := hide hW
  rw [← hW] at hcans q1s hBs
  have e1 := hcans.num
  have e2 := hcans.den
  have hcl := hcans.hn
  have hcm := hcans.hm
  have hl1 := txt_short (K := K) e1.len hcl hK1
  have hl2 := txt_short (K := K) e2.len hcm hK1
  obtain ⟨D1, hD1⟩ : ∃ D : ByteArray, D = ⟨(dec q.num.natAbs).toArray⟩ := ⟨_, rfl⟩
  obtain ⟨D2, hD2⟩ : ∃ D : ByteArray, D = ⟨(dec q.den).toArray⟩ := ⟨_, rfl⟩
  have hcall := rtext_any A' n' c' _ W e1 (by omega)
  rw [val_limbs, ← hD1] at hcall
  have hcall2 : ∀ w', Below W.heap.size W w' → Calls Tryd.prog 9 #[.slice B' m' d'] w' (Makes (.string D2) w') := fun w' hb => by
    have := rtext_any B' m' d' _ w' (e2.below hb) (by omega)
    rwa [val_limbs, ← hD2] at this
  rw [← hD1] at hl1
  rw [← hD2] at hl2
  have HC2 := hide hcall2
  have HT := hide (qtxt_bytes q)
  rw [← hD1, ← hD2] at HT
  have HCS := hide hcall
  have E2 := hide e2
  have hl1' : D1.size ≤ 10000 := by omega
  have hl2' : D2.size ≤ 10000 := by omega
  clear hW hr q1 hS hb1 hcan ho hcans hcall hcall2 hD1 hD2 hl1 hl2 e1 e2 hcl hcm
  go_wp2_with fail
  rw [← HWS.out]
  refine HCS.out.mono ?_
  rintro e w2 ⟨rfl, hb2⟩
  have Q2 := hide (q1s.below hb2)
  have hc1 := Q2.out.cells
  have hB2 := below_step hb2 hBs
  have hz2 := Q2.out.2
  have E22 := hide (E2.out.below hb2)
  have HB2 := hide hb2
  clear hcg hfg q11 q1s hBs HWS HCS hb2
  obtain ⟨u, hu⟩ : ∃ u, u = qneg q := ⟨_, rfl⟩
  rw [← hu] at hc1 Q2
  have hden : q.den = 1 ∨ q.den ≠ 1 := by omega
  have hF := From.refl w2
  cases u with
  | true =>
    have hsz : 1 + D1.size ≤ 10001 := by omega
    rcases hden with hd | hd
    · have HX : Hid ((⟨(qtxt q).toArray⟩ : ByteArray) = ⟨#[45]⟩ ++ D1) := by rw [Hid, HT.out, ← hu, if_pos hd]; exact ByteArray.ext (by simp [ByteArray.data_append])
      have HC : Hid (decide (limbs q.den = limbs 1) = true) := by
        rw [Hid]
        rw [hd]; simp
      clear hd hu HT
      go_wp2_with fail
      refine (rsame_any _ _ _ _ _ _ _ _ (k := limbs 1) (Rd.upAlloc E22.out) (rd_one _ _ rfl)).mono ?_
      rw [HC.out]
      rintro e w3 ⟨rfl, hb3⟩
      have hb23 := below_step hb3 (below_alloc w2 (.cells #[.int .u32 1] 40))
      have hc3 := (Q2.out.below hb23).cells
      have hB3 := below_step hb23 hB2
      have hb24 := HB2.out.trans (hb23.mono HB2.out.size)
      clear hc1 hb3
      go_wp2
      go_ret
      exact ⟨by rw [HX.out]; rfl, hB3⟩
    · have HX : Hid ((⟨(qtxt q).toArray⟩ : ByteArray) = (⟨#[45]⟩ ++ D1) ++ (⟨#[47]⟩ ++ D2)) := by rw [Hid, HT.out, ← hu, if_neg hd]; exact ByteArray.ext (by simp [ByteArray.data_append])
      have HC : Hid (decide (limbs q.den = limbs 1) = false) := by
        rw [Hid]
        refine decide_eq_false (fun h => hd ?_)
        have := congrArg val h
        rwa [val_limbs, val_limbs] at this
      clear hd hu HT
      go_wp2_with fail
      refine (rsame_any _ _ _ _ _ _ _ _ (k := limbs 1) (Rd.upAlloc E22.out) (rd_one _ _ rfl)).mono ?_
      rw [HC.out]
      rintro e w3 ⟨rfl, hb3⟩
      have hb23 := below_step hb3 (below_alloc w2 (.cells #[.int .u32 1] 40))
      have hc3 := (Q2.out.below hb23).cells
      have hB3 := below_step hb23 hB2
      have hb24 := HB2.out.trans (hb23.mono HB2.out.size)
      clear hc1 hb3
      go_wp2_with fail
      refine (HC2.out _ hb24).mono ?_
      rintro e w4 ⟨rfl, hb4⟩
      go_wp2
      go_ret
      exact ⟨by rw [HX.out]; first | rfl | (simp only [← ByteArray.append_assoc]; rfl), below_step hb4 hB3⟩
  | false =>
    rcases hden with hd | hd
    · have HX : Hid ((⟨(qtxt q).toArray⟩ : ByteArray) = D1) := by rw [Hid, HT.out, ← hu, if_pos hd]; exact ByteArray.ext (by simp [ByteArray.data_append])
      have HC : Hid (decide (limbs q.den = limbs 1) = true) := by
        rw [Hid]
        rw [hd]; simp
      clear hd hu HT
      go_wp2_with fail
      refine (rsame_any _ _ _ _ _ _ _ _ (k := limbs 1) (Rd.upAlloc E22.out) (rd_one _ _ rfl)).mono ?_
      rw [HC.out]
      rintro e w3 ⟨rfl, hb3⟩
      have hb23 := below_step hb3 (below_alloc w2 (.cells #[.int .u32 1] 40))
      have hc3 := (Q2.out.below hb23).cells
      have hB3 := below_step hb23 hB2
      have hb24 := HB2.out.trans (hb23.mono HB2.out.size)
      clear hc1 hb3
      go_wp2
      go_ret
      exact ⟨by rw [HX.out]; rfl, hB3⟩
    · have HX : Hid ((⟨(qtxt q).toArray⟩ : ByteArray) = D1 ++ (⟨#[47]⟩ ++ D2)) := by rw [Hid, HT.out, ← hu, if_neg hd]; exact ByteArray.ext (by simp [ByteArray.data_append])
      have HC : Hid (decide (limbs q.den = limbs 1) = false) := by
        rw [Hid]
        refine decide_eq_false (fun h => hd ?_)
        have := congrArg val h
        rwa [val_limbs, val_limbs] at this
      clear hd hu HT
      go_wp2_with fail
      refine (rsame_any _ _ _ _ _ _ _ _ (k := limbs 1) (Rd.upAlloc E22.out) (rd_one _ _ rfl)).mono ?_
      rw [HC.out]
      rintro e w3 ⟨rfl, hb3⟩
      have hb23 := below_step hb3 (below_alloc w2 (.cells #[.int .u32 1] 40))
      have hc3 := (Q2.out.below hb23).cells
      have hB3 := below_step hb23 hB2
      have hb24 := HB2.out.trans (hb23.mono HB2.out.size)
      clear hc1 hb3
      go_wp2_with fail
      refine (HC2.out _ hb24).mono ?_
      rintro e w4 ⟨rfl, hb4⟩
      go_wp2
      go_ret
      exact ⟨by rw [HX.out]; first | rfl | (simp only [← ByteArray.append_assoc]; rfl), below_step hb4 hB3⟩
end Go.Proofs.YtfggecdgnidhfaaDoor
