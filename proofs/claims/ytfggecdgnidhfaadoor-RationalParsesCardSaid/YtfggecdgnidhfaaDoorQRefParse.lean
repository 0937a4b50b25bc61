/- The number of a rational's text: the walk of the reference's Parse. -/
import Derived.Test.YtfggecdgnidhfaaDoorQParse
namespace Go.Proofs.YtfggecdgnidhfaaDoor
open Go.RowKit
set_option maxHeartbeats 1000000 in
theorem rqparse_big (s : ByteArray) (w : World) (hs : 10000 < s.size) : Calls Tryd.prog 18 #[.string s] w (ErrQ 8 w) := by
  obtain ⟨W, hW, hS, q3⟩ := box1 w false none 0 0 none 0 0
  have hcg := q3.cells
  have hfg := q3.free
  have HW := hide hW
  clear hW
  go_enter Tryd.func18, Tryd.ntmps18
  go_wp2
  rw [← HW.out]
  exact bodyPost_ret (v := .tuple #[.agg #[.bool false, .slice none 0 0, .slice none 0 0], .int .i64 8]) (by simp [results, Tryd.results18, go_sem, hcg]) rfl ⟨rfl, hS⟩
theorem one_lit (w : World) : Rd (w.alloc (.cells #[Value.int .u32 1] 40)) (some ⟨w.heap.size, 0, none⟩) 1 1 (limbs 1) := rd_one w _ rfl
theorem ext_top {T : ByteArray} {l : List UInt8} {k : Nat} (hT : T.data.toList = bodyT l) (hk : k = slash (bodyT l)) : (T.extract 0 k).data.toList = topT l := by
  rw [Lib.extract_data, hT, hk]
  rfl
theorem ext_bot {T : ByteArray} {l : List UInt8} {k : Nat} (hT : T.data.toList = bodyT l) (hk : k = slash (bodyT l)) : (T.extract (k + 1) T.size).data.toList = botT l := by
  rw [Lib.extract_data, List.take_of_length_le (by rw [List.length_drop]; exact Nat.le_refl _), hT, hk]
  rfl
set_option maxHeartbeats 8000000 in
set_option maxRecDepth 10000 in
theorem rqparse_any (s : ByteArray) (w : World) (hs : s.size ≤ 1000) : Calls Tryd.prog 18 #[.string s] w (RetQP s.data.toList 1000 w) := by
  obtain ⟨S, hSd⟩ : ∃ S, S = s.data.toList := ⟨_, rfl⟩
  have hSl : S.length = s.size := by rw [hSd]; rfl
  have HSB : Hid ((⟨S.toArray⟩ : ByteArray) = s) := mk_list hSd.symm
  obtain ⟨neg, hneg⟩ : ∃ b, isNeg S = b := ⟨_, rfl⟩
  obtain ⟨r, hr⟩ : ∃ r, r = valQ S := ⟨_, rfl⟩
  obtain ⟨W, hW, hS, q3⟩ := box1 w false none 0 0 none 0 0
  have HW := hide hW
  have HR := hide hr
  have lTop : (topT S).length ≤ 1000 := by have := topT_len S; omega
  have lBot : (botT S).length ≤ 1000 := by have := botT_len S; omega
  have HTL := hide lTop
  have HBL := hide lBot
  have hs1 : (s.size : Int) ≤ 10000 := by omega
  have hneg0 : neg = true → ∃ h : 0 < s.size, s[0]'h = 45 := by
    intro h
    subst h
    rw [hSd] at hneg
    unfold isNeg at hneg
    have h2 : s.data.toList.head? = some 45 := by simpa using hneg
    rw [List.head?_eq_getElem?, Array.getElem?_toList] at h2
    obtain ⟨h3, h4⟩ := Array.getElem?_eq_some_iff.1 h2
    exact ⟨h3, h4⟩
  have hneg1 : neg = false → ∀ h : 0 < s.size, s[0]'h ≠ 45 := by
    intro h h2 h3
    subst h
    rw [hSd] at hneg
    unfold isNeg at hneg
    rw [List.head?_eq_getElem?, Array.getElem?_toList, Array.getElem?_eq_getElem (show 0 < s.data.size from h2)] at hneg
    rw [show s.data[0]'h2 = 45 from h3] at hneg
    simp at hneg
  have HNG := hide hneg
  have HSD := hide hSd
  rw [← hSd]
  clear hW hr lTop lBot hneg hSd hSl
  go_enter Tryd.func18, Tryd.ntmps18
  cases neg with
  | true =>
    obtain ⟨h0, h45⟩ := hneg0 rfl
    have hg1 : (0 : Int) < (s.size : Int) := by omega
    have hg2 : (((s[0]'h0).toNat : Int) == 45) = true := by rw [h45]; rfl
    obtain ⟨T, hT⟩ : ∃ T : ByteArray, T = s.extract 1 s.size := ⟨_, rfl⟩
    have hTB : T.data.toList = bodyT S := by
      rw [hT, Lib.extract_data, List.take_of_length_le (by rw [List.length_drop]; exact Nat.le_refl _), ← HSD.out]
      unfold bodyT
      rw [HNG.out]
      rfl
    have HTS : Hid (T.size ≤ 1000) := by rw [Hid, hT]; simp; omega
    have hg3 : (1 : Int) ≤ (s.size : Int) := by omega
    have HT := hide hT
    have HTL2 : Hid ((bodyT S).length = T.size) := by rw [Hid, ← hTB]; rfl
    have HTK : Hid (∀ k (hk : k < T.size), T[k]'hk = (bodyT S).getD k 0) := by
      intro k hk
      rw [← hTB, List.getD_eq_getElem?_getD, Array.getElem?_toList, Array.getElem?_eq_getElem (show k < T.data.size from hk)]
      rfl
    have HTB := hide hTB
    clear hneg0 hneg1 h45 hT hTB
    go_wp2_with fail
    rw [← HW.out, ← HT.out]
    go_wp2_with fail
    go_loopw [6] (fun iv wr => ∃ k : Nat, k ≤ slash (bodyT S) ∧ iv = .int .i64 (k : Int) ∧ wr = W) (fun iv _ => T.size - (intOf iv).toNat)
    case atStart => exact ⟨0, Nat.zero_le _, rfl, rfl⟩
    case round =>
      obtain ⟨k, hk, rfl, rfl⟩ := hrel
      by_cases hlt : k < T.size
      · have hc := HTK.out k hlt
        have hq1 : (k : Int) < (T.size : Int) := by omega
        have hts := HTS.out
        by_cases hks : k = slash (bodyT S)
        · have hc47 : (((T[k]'hlt).toNat : Int) == 47) = true := by
            rw [hc, hks, slash_at _ (by rw [← hks, HTL2.out]; exact hlt)]
            rfl
          have HHS : Hid (hasB S = true) := by
            rw [Hid, hasB, decide_eq_true_eq, HTL2.out, ← hks]
            exact hlt
          have HU := hide (ext_top HTB.out hks)
          have HV := hide (ext_bot HTB.out hks)
          have lU : (T.extract 0 k).size ≤ 1000 := by
            have h9 := HTS.out
            simp
            omega
          have lV : (T.extract (k + 1) T.size).size ≤ 1000 := by
            have h9 := HTS.out
            simp
            omega
          clear hc hks hk
          go_wp2_with fail
          refine (rparse_all _ _ _ HU.out (by omega)).mono ?_
          rintro e w2 ⟨hok, hno, hb2⟩
          have hB2 := below_step hb2 hS
          have q32 := q3.below hb2
          by_cases h1 : wellD (topT S)
          · obtain ⟨A1, n1, c1, rfl, r1⟩ := hok h1
            have hn1 := rd_few r1 h1 HTL.out
            have H1 := hide h1
            have hba := below_alloc w2 (.cells #[Value.int .u32 1] 40)
            have h9 := one_lit w2
            have r13 := r1.below hba
            have q33 := q32.below hba
            have hB3 := below_step hba hB2
            clear hok hno h1 hb2 hB2 q32 hba r1
            go_wp2_with fail
            refine (rparse_all _ _ _ HV.out (by omega)).mono ?_
            rintro e w4 ⟨hok, hno, hb4⟩
            have hBw := below_step hb4 hB3
            have q3w := q33.below hb4
            clear hB3 q33
            by_cases h2 : wellD (botT S)
            · obtain ⟨A2, n2, c2, rfl, r2⟩ := hok h2
              have hn2 := rd_few r2 h2 HBL.out
              have r14 := r13.below hb4
              have HWQ : Hid (wellQ S) := ⟨H1.out, fun _ => h2⟩
              have HE : Hid (ratOf true (val (limbs (pval (topT S)))) (val (limbs (pval (botT S)))) = r) := by
                rw [Hid, val_limbs, val_limbs, HR.out]
                unfold valQ denT
                rw [HHS.out, HNG.out]
                rfl
              clear hok hno h2 r13 hb4 h9
              go_wp2_with fail
              refine (make_eqv (K := 1000) r14 r2 HE.out (by omega) (by omega) (by omega) (by omega)).mono ?_
              rintro e w6 ⟨A', n', c', B', m', d', rfl, hcan, hb6⟩
              obtain ⟨W6, hW6, hS6, q6⟩ := box1 w6 (qneg r) A' n' c' B' m' d'
              have HW6 := hide hW6
              have hc6 := q6.cells
              have hcan6 := hcan.below hS6
              have hb66 := below_step hS6 hb6
              have hB6 := below_step hb66 hBw
              have q36 := q3w.below hb66
              have hcall := rqtext_any _ _ _ _ _ _ _ r 1000 W6 hcan6.raw (by omega) (by omega)
              clear hW6 hcan hb6 hb66 q3w hBw
              go_wp2_with fail
              rw [← HW6.out]
              by_cases hq : qtxt r = S
              · have HQ := hide hq
                rw [hq, HSB.out] at hcall
                refine hcall.mono ?_
                rintro e w7 ⟨rfl, hb7⟩
                have q37 := q36.below hb7
                have hcg := q37.cells
                have hfg := q37.free
                have hc7 := (q6.below hb7).cells
                have hcan7 := hcan6.below hb7
                have hB7 := below_step hb7 hB6
                clear hc6 hq hcall q36 q6 HW6
                go_wp2
                exact bodyPost_ret (v := .tuple #[.agg #[.bool (qneg r), .slice A' n' c', .slice B' m' d'], .int .i64 0]) (by simp [results, Tryd.results18, go_sem, hcg]) rfl ⟨fun h => absurd HWQ.out h, fun _ h => absurd (by rw [← HR.out]; exact HQ.out) h, fun _ _ => ⟨A', n', c', B', m', d', by rw [← HR.out], by rw [← HR.out]; exact hcan7.store3 q37.noNum⟩, below3 hB7 (Nat.le_refl _) _ _ _⟩
              · have HQ := hide hq
                obtain ⟨X, hX⟩ : ∃ X : ByteArray, X = ⟨(qtxt r).toArray⟩ := ⟨_, rfl⟩
                have hXs : (X.toList == s.toList) = false := by
                  rw [beq_eq_false_iff_ne, hX, ← HSB.out, ByteArray.toList_eq, ByteArray.toList_eq]
                  intro h
                  exact hq (by simpa using h)
                rw [← hX] at hcall
                refine hcall.mono ?_
                rintro e w7 ⟨rfl, hb7⟩
                have q37 := q36.below hb7
                have hcg := q37.cells
                have hfg := q37.free
                have hB7 := below_step hb7 hB6
                clear hc6 hq hcall q36 q6 HW6 hX hcan6
                go_wp2
                exact bodyPost_ret (v := .tuple #[.agg #[.bool false, .slice none 0 0, .slice none 0 0], .int .i64 5]) (by simp [results, Tryd.results18, go_sem, hcg]) rfl ⟨fun h => absurd HWQ.out h, fun _ _ => rfl, fun _ h => absurd (by rw [HR.out]; exact h) HQ.out, below3 hB7 (Nat.le_refl _) _ _ _⟩
            · obtain rfl := hno h2
              have HWQ : Hid (¬ wellQ S) := fun h => h2 (h.2 HHS.out)
              have hcg := q3w.cells
              have hfg := q3w.free
              clear hok hno h2 r13 hb4 h9
              go_wp2
              exact bodyPost_ret (v := .tuple #[.agg #[.bool false, .slice none 0 0, .slice none 0 0], .int .i64 14]) (by simp [results, Tryd.results18, go_sem, hcg]) rfl ⟨fun _ => rfl, fun h => absurd h HWQ.out, fun h => absurd h HWQ.out, below3 hBw (Nat.le_refl _) _ _ _⟩
          · obtain rfl := hno h1
            have HWQ : Hid (¬ wellQ S) := fun h => h1 h.1
            have hcg := q32.cells
            have hfg := q32.free
            clear hok hno h1
            go_wp2
            exact bodyPost_ret (v := .tuple #[.agg #[.bool false, .slice none 0 0, .slice none 0 0], .int .i64 14]) (by simp [results, Tryd.results18, go_sem, hcg]) rfl ⟨fun _ => rfl, fun h => absurd h HWQ.out, fun h => absurd h HWQ.out, below3 hB2 (Nat.le_refl _) _ _ _⟩
        · have hc47 : (((T[k]'hlt).toNat : Int) == 47) = false := by
            have h9 := slash_no (bodyT S) k (by omega)
            rw [hc]
            generalize (bodyT S).getD k 0 = x at h9 ⊢
            simp
            intro h8
            exact h9 (UInt8.toNat_inj.1 (by rw [show (47 : UInt8).toNat = 47 from rfl]; omega))
          clear hc
          go_wp2
          go_roundw
          case rel => exact ⟨k + 1, by omega, by go_num, by trivial⟩
          case measure => simp [intOf]; omega
      · have hks : k = slash (bodyT S) := by
          have h9 := slash_le (bodyT S)
          have h8 := HTL2.out
          omega
        have hq1 : ¬ (k : Int) < (T.size : Int) := by omega
        have HHS : Hid (hasB S = false) := by
          rw [Hid, hasB, decide_eq_false_iff_not, HTL2.out, ← hks]
          exact hlt
        have HU := hide (ext_top HTB.out hks)
        have hkt : k = T.size := by
          have h9 := slash_le (bodyT S)
          have h8 := HTL2.out
          omega
        have lU : (T.extract 0 k).size ≤ 1000 := by
          have h9 := HTS.out
          simp
          omega
        have hkl : (k : Int) ≤ (T.size : Int) := by omega
        clear hks hk hkt
        go_wp2_with fail
        refine (rparse_all _ _ _ HU.out (by omega)).mono ?_
        rintro e w2 ⟨hok, hno, hb2⟩
        have hB2 := below_step hb2 hS
        have q32 := q3.below hb2
        by_cases h1 : wellD (topT S)
        · obtain ⟨A1, n1, c1, rfl, r1⟩ := hok h1
          have hn1 := rd_few r1 h1 HTL.out
          have H1 := hide h1
          have hba := below_alloc w2 (.cells #[Value.int .u32 1] 40)
          have h9 := one_lit w2
          have r13 := r1.below hba
          have q33 := q32.below hba
          have hB3 := below_step hba hB2
          clear hok hno h1 hb2 hB2 q32 hba r1
          have HWQ : Hid (wellQ S) := ⟨H1.out, fun h => by rw [HHS.out] at h; cases h⟩
          have HE : Hid (ratOf true (val (limbs (pval (topT S)))) (val (limbs (1))) = r) := by
            rw [Hid, val_limbs, val_limbs, HR.out]
            unfold valQ denT
            rw [HHS.out, HNG.out]
            rfl
          have q3w := q33
          have hBw := hB3
          clear q33 hB3
          go_wp2_with fail
          refine (make_eqv (K := 1000) r13 h9 HE.out (by omega) (by omega) (by omega) (by omega)).mono ?_
          rintro e w6 ⟨A', n', c', B', m', d', rfl, hcan, hb6⟩
          obtain ⟨W6, hW6, hS6, q6⟩ := box1 w6 (qneg r) A' n' c' B' m' d'
          have HW6 := hide hW6
          have hc6 := q6.cells
          have hcan6 := hcan.below hS6
          have hb66 := below_step hS6 hb6
          have hB6 := below_step hb66 hBw
          have q36 := q3w.below hb66
          have hcall := rqtext_any _ _ _ _ _ _ _ r 1000 W6 hcan6.raw (by omega) (by omega)
          clear hW6 hcan hb6 hb66 q3w hBw
          go_wp2_with fail
          rw [← HW6.out]
          by_cases hq : qtxt r = S
          · have HQ := hide hq
            rw [hq, HSB.out] at hcall
            refine hcall.mono ?_
            rintro e w7 ⟨rfl, hb7⟩
            have q37 := q36.below hb7
            have hcg := q37.cells
            have hfg := q37.free
            have hc7 := (q6.below hb7).cells
            have hcan7 := hcan6.below hb7
            have hB7 := below_step hb7 hB6
            clear hc6 hq hcall q36 q6 HW6
            go_wp2
            exact bodyPost_ret (v := .tuple #[.agg #[.bool (qneg r), .slice A' n' c', .slice B' m' d'], .int .i64 0]) (by simp [results, Tryd.results18, go_sem, hcg]) rfl ⟨fun h => absurd HWQ.out h, fun _ h => absurd (by rw [← HR.out]; exact HQ.out) h, fun _ _ => ⟨A', n', c', B', m', d', by rw [← HR.out], by rw [← HR.out]; exact hcan7.store3 q37.noNum⟩, below3 hB7 (Nat.le_refl _) _ _ _⟩
          · have HQ := hide hq
            obtain ⟨X, hX⟩ : ∃ X : ByteArray, X = ⟨(qtxt r).toArray⟩ := ⟨_, rfl⟩
            have hXs : (X.toList == s.toList) = false := by
              rw [beq_eq_false_iff_ne, hX, ← HSB.out, ByteArray.toList_eq, ByteArray.toList_eq]
              intro h
              exact hq (by simpa using h)
            rw [← hX] at hcall
            refine hcall.mono ?_
            rintro e w7 ⟨rfl, hb7⟩
            have q37 := q36.below hb7
            have hcg := q37.cells
            have hfg := q37.free
            have hB7 := below_step hb7 hB6
            clear hc6 hq hcall q36 q6 HW6 hX hcan6
            go_wp2
            exact bodyPost_ret (v := .tuple #[.agg #[.bool false, .slice none 0 0, .slice none 0 0], .int .i64 5]) (by simp [results, Tryd.results18, go_sem, hcg]) rfl ⟨fun h => absurd HWQ.out h, fun _ _ => rfl, fun _ h => absurd (by rw [HR.out]; exact h) HQ.out, below3 hB7 (Nat.le_refl _) _ _ _⟩
        · obtain rfl := hno h1
          have HWQ : Hid (¬ wellQ S) := fun h => h1 h.1
          have hcg := q32.cells
          have hfg := q32.free
          clear hok hno h1
          go_wp2
          exact bodyPost_ret (v := .tuple #[.agg #[.bool false, .slice none 0 0, .slice none 0 0], .int .i64 14]) (by simp [results, Tryd.results18, go_sem, hcg]) rfl ⟨fun _ => rfl, fun h => absurd h HWQ.out, fun h => absurd h HWQ.out, below3 hB2 (Nat.le_refl _) _ _ _⟩
  | false =>
    have hg : (s.size : Int) ≤ 0 ∨ (∃ h0 : 0 < s.size, (0 : Int) < (s.size : Int) ∧ (((s[0]'h0).toNat : Int) == 45) = false) := by
      rcases Nat.eq_zero_or_pos s.size with h | h
      · exact .inl (by omega)
      · refine .inr ⟨h, by omega, ?_⟩
        have h9 := hneg1 rfl h
        simp
        intro h8
        exact h9 (UInt8.toNat_inj.1 (by rw [show (45 : UInt8).toNat = 45 from rfl]; omega))
    have hTB : s.data.toList = bodyT S := by
      rw [← HSD.out]
      unfold bodyT
      rw [HNG.out]
      rfl
    have HTS : Hid (s.size ≤ 1000) := hs
    have HTL2 : Hid ((bodyT S).length = s.size) := by rw [Hid, ← hTB]; rfl
    have HTK : Hid (∀ k (hk : k < s.size), s[k]'hk = (bodyT S).getD k 0) := by
      intro k hk
      rw [← hTB, List.getD_eq_getElem?_getD, Array.getElem?_toList, Array.getElem?_eq_getElem (show k < s.data.size from hk)]
      rfl
    have HTB := hide hTB
    clear hneg0 hneg1 hTB
    rcases hg with hg | ⟨h0, hg1, hg2⟩
    · go_wp2_with fail
      rw [← HW.out]
      go_wp2_with fail
      go_loopw [6] (fun iv wr => ∃ k : Nat, k ≤ slash (bodyT S) ∧ iv = .int .i64 (k : Int) ∧ wr = W) (fun iv _ => s.size - (intOf iv).toNat)
      case atStart => exact ⟨0, Nat.zero_le _, rfl, rfl⟩
      case round =>
        obtain ⟨k, hk, rfl, rfl⟩ := hrel
        have hlt : ¬ k < s.size := by omega
        have hts := HTS.out
        have hks : k = slash (bodyT S) := by
          have h9 := slash_le (bodyT S)
          have h8 := HTL2.out
          omega
        have hq1 : ¬ (k : Int) < (s.size : Int) := by omega
        have HHS : Hid (hasB S = false) := by
          rw [Hid, hasB, decide_eq_false_iff_not, HTL2.out, ← hks]
          exact hlt
        have HU := hide (ext_top HTB.out hks)
        have hkt : k = s.size := by
          have h9 := slash_le (bodyT S)
          have h8 := HTL2.out
          omega
        have lU : (s.extract 0 k).size ≤ 1000 := by
          have h9 := HTS.out
          simp
          omega
        have hkl : (k : Int) ≤ (s.size : Int) := by omega
        clear hks hk hkt
        go_wp2_with fail
        refine (rparse_all _ _ _ HU.out (by omega)).mono ?_
        rintro e w2 ⟨hok, hno, hb2⟩
        have hB2 := below_step hb2 hS
        have q32 := q3.below hb2
        by_cases h1 : wellD (topT S)
        · obtain ⟨A1, n1, c1, rfl, r1⟩ := hok h1
          have hn1 := rd_few r1 h1 HTL.out
          have H1 := hide h1
          have hba := below_alloc w2 (.cells #[Value.int .u32 1] 40)
          have h9 := one_lit w2
          have r13 := r1.below hba
          have q33 := q32.below hba
          have hB3 := below_step hba hB2
          clear hok hno h1 hb2 hB2 q32 hba r1
          have HWQ : Hid (wellQ S) := ⟨H1.out, fun h => by rw [HHS.out] at h; cases h⟩
          have HE : Hid (ratOf false (val (limbs (pval (topT S)))) (val (limbs (1))) = r) := by
            rw [Hid, val_limbs, val_limbs, HR.out]
            unfold valQ denT
            rw [HHS.out, HNG.out]
            rfl
          have q3w := q33
          have hBw := hB3
          clear q33 hB3
          go_wp2_with fail
          refine (make_eqv (K := 1000) r13 h9 HE.out (by omega) (by omega) (by omega) (by omega)).mono ?_
          rintro e w6 ⟨A', n', c', B', m', d', rfl, hcan, hb6⟩
          obtain ⟨W6, hW6, hS6, q6⟩ := box1 w6 (qneg r) A' n' c' B' m' d'
          have HW6 := hide hW6
          have hc6 := q6.cells
          have hcan6 := hcan.below hS6
          have hb66 := below_step hS6 hb6
          have hB6 := below_step hb66 hBw
          have q36 := q3w.below hb66
          have hcall := rqtext_any _ _ _ _ _ _ _ r 1000 W6 hcan6.raw (by omega) (by omega)
          clear hW6 hcan hb6 hb66 q3w hBw
          go_wp2_with fail
          rw [← HW6.out]
          by_cases hq : qtxt r = S
          · have HQ := hide hq
            rw [hq, HSB.out] at hcall
            refine hcall.mono ?_
            rintro e w7 ⟨rfl, hb7⟩
            have q37 := q36.below hb7
            have hcg := q37.cells
            have hfg := q37.free
            have hc7 := (q6.below hb7).cells
            have hcan7 := hcan6.below hb7
            have hB7 := below_step hb7 hB6
            clear hc6 hq hcall q36 q6 HW6
            go_wp2
            exact bodyPost_ret (v := .tuple #[.agg #[.bool (qneg r), .slice A' n' c', .slice B' m' d'], .int .i64 0]) (by simp [results, Tryd.results18, go_sem, hcg]) rfl ⟨fun h => absurd HWQ.out h, fun _ h => absurd (by rw [← HR.out]; exact HQ.out) h, fun _ _ => ⟨A', n', c', B', m', d', by rw [← HR.out], by rw [← HR.out]; exact hcan7.store3 q37.noNum⟩, below3 hB7 (Nat.le_refl _) _ _ _⟩
          · have HQ := hide hq
            obtain ⟨X, hX⟩ : ∃ X : ByteArray, X = ⟨(qtxt r).toArray⟩ := ⟨_, rfl⟩
            have hXs : (X.toList == s.toList) = false := by
              rw [beq_eq_false_iff_ne, hX, ← HSB.out, ByteArray.toList_eq, ByteArray.toList_eq]
              intro h
              exact hq (by simpa using h)
            rw [← hX] at hcall
            refine hcall.mono ?_
            rintro e w7 ⟨rfl, hb7⟩
            have q37 := q36.below hb7
            have hcg := q37.cells
            have hfg := q37.free
            have hB7 := below_step hb7 hB6
            clear hc6 hq hcall q36 q6 HW6 hX hcan6
            go_wp2
            exact bodyPost_ret (v := .tuple #[.agg #[.bool false, .slice none 0 0, .slice none 0 0], .int .i64 5]) (by simp [results, Tryd.results18, go_sem, hcg]) rfl ⟨fun h => absurd HWQ.out h, fun _ _ => rfl, fun _ h => absurd (by rw [HR.out]; exact h) HQ.out, below3 hB7 (Nat.le_refl _) _ _ _⟩
        · obtain rfl := hno h1
          have HWQ : Hid (¬ wellQ S) := fun h => h1 h.1
          have hcg := q32.cells
          have hfg := q32.free
          clear hok hno h1
          go_wp2
          exact bodyPost_ret (v := .tuple #[.agg #[.bool false, .slice none 0 0, .slice none 0 0], .int .i64 14]) (by simp [results, Tryd.results18, go_sem, hcg]) rfl ⟨fun _ => rfl, fun h => absurd h HWQ.out, fun h => absurd h HWQ.out, below3 hB2 (Nat.le_refl _) _ _ _⟩
    · go_wp2_with fail
      rw [← HW.out]
      go_wp2_with fail
      go_loopw [6] (fun iv wr => ∃ k : Nat, k ≤ slash (bodyT S) ∧ iv = .int .i64 (k : Int) ∧ wr = W) (fun iv _ => s.size - (intOf iv).toNat)
      case atStart => exact ⟨0, Nat.zero_le _, rfl, rfl⟩
      case round =>
        obtain ⟨k, hk, rfl, rfl⟩ := hrel
        by_cases hlt : k < s.size
        · have hc := HTK.out k hlt
          have hq1 : (k : Int) < (s.size : Int) := by omega
          have hts := HTS.out
          by_cases hks : k = slash (bodyT S)
          · have hc47 : (((s[k]'hlt).toNat : Int) == 47) = true := by
              rw [hc, hks, slash_at _ (by rw [← hks, HTL2.out]; exact hlt)]
              rfl
            have HHS : Hid (hasB S = true) := by
              rw [Hid, hasB, decide_eq_true_eq, HTL2.out, ← hks]
              exact hlt
            have HU := hide (ext_top HTB.out hks)
            have HV := hide (ext_bot HTB.out hks)
            have lU : (s.extract 0 k).size ≤ 1000 := by
              have h9 := HTS.out
              simp
              omega
            have lV : (s.extract (k + 1) s.size).size ≤ 1000 := by
              have h9 := HTS.out
              simp
              omega
            clear hc hks hk
            go_wp2_with fail
            refine (rparse_all _ _ _ HU.out (by omega)).mono ?_
            rintro e w2 ⟨hok, hno, hb2⟩
            have hB2 := below_step hb2 hS
            have q32 := q3.below hb2
            by_cases h1 : wellD (topT S)
            · obtain ⟨A1, n1, c1, rfl, r1⟩ := hok h1
              have hn1 := rd_few r1 h1 HTL.out
              have H1 := hide h1
              have hba := below_alloc w2 (.cells #[Value.int .u32 1] 40)
              have h9 := one_lit w2
              have r13 := r1.below hba
              have q33 := q32.below hba
              have hB3 := below_step hba hB2
              clear hok hno h1 hb2 hB2 q32 hba r1
              go_wp2_with fail
              refine (rparse_all _ _ _ HV.out (by omega)).mono ?_
              rintro e w4 ⟨hok, hno, hb4⟩
              have hBw := below_step hb4 hB3
              have q3w := q33.below hb4
              clear hB3 q33
              by_cases h2 : wellD (botT S)
              · obtain ⟨A2, n2, c2, rfl, r2⟩ := hok h2
                have hn2 := rd_few r2 h2 HBL.out
                have r14 := r13.below hb4
                have HWQ : Hid (wellQ S) := ⟨H1.out, fun _ => h2⟩
                have HE : Hid (ratOf false (val (limbs (pval (topT S)))) (val (limbs (pval (botT S)))) = r) := by
                  rw [Hid, val_limbs, val_limbs, HR.out]
                  unfold valQ denT
                  rw [HHS.out, HNG.out]
                  rfl
                clear hok hno h2 r13 hb4 h9
                go_wp2_with fail
                refine (make_eqv (K := 1000) r14 r2 HE.out (by omega) (by omega) (by omega) (by omega)).mono ?_
                rintro e w6 ⟨A', n', c', B', m', d', rfl, hcan, hb6⟩
                obtain ⟨W6, hW6, hS6, q6⟩ := box1 w6 (qneg r) A' n' c' B' m' d'
                have HW6 := hide hW6
                have hc6 := q6.cells
                have hcan6 := hcan.below hS6
                have hb66 := below_step hS6 hb6
                have hB6 := below_step hb66 hBw
                have q36 := q3w.below hb66
                have hcall := rqtext_any _ _ _ _ _ _ _ r 1000 W6 hcan6.raw (by omega) (by omega)
                clear hW6 hcan hb6 hb66 q3w hBw
                go_wp2_with fail
                rw [← HW6.out]
                by_cases hq : qtxt r = S
                · have HQ := hide hq
                  rw [hq, HSB.out] at hcall
                  refine hcall.mono ?_
                  rintro e w7 ⟨rfl, hb7⟩
                  have q37 := q36.below hb7
                  have hcg := q37.cells
                  have hfg := q37.free
                  have hc7 := (q6.below hb7).cells
                  have hcan7 := hcan6.below hb7
                  have hB7 := below_step hb7 hB6
                  clear hc6 hq hcall q36 q6 HW6
                  go_wp2
                  exact bodyPost_ret (v := .tuple #[.agg #[.bool (qneg r), .slice A' n' c', .slice B' m' d'], .int .i64 0]) (by simp [results, Tryd.results18, go_sem, hcg]) rfl ⟨fun h => absurd HWQ.out h, fun _ h => absurd (by rw [← HR.out]; exact HQ.out) h, fun _ _ => ⟨A', n', c', B', m', d', by rw [← HR.out], by rw [← HR.out]; exact hcan7.store3 q37.noNum⟩, below3 hB7 (Nat.le_refl _) _ _ _⟩
                · have HQ := hide hq
                  obtain ⟨X, hX⟩ : ∃ X : ByteArray, X = ⟨(qtxt r).toArray⟩ := ⟨_, rfl⟩
                  have hXs : (X.toList == s.toList) = false := by
                    rw [beq_eq_false_iff_ne, hX, ← HSB.out, ByteArray.toList_eq, ByteArray.toList_eq]
                    intro h
                    exact hq (by simpa using h)
                  rw [← hX] at hcall
                  refine hcall.mono ?_
                  rintro e w7 ⟨rfl, hb7⟩
                  have q37 := q36.below hb7
                  have hcg := q37.cells
                  have hfg := q37.free
                  have hB7 := below_step hb7 hB6
                  clear hc6 hq hcall q36 q6 HW6 hX hcan6
                  go_wp2
                  exact bodyPost_ret (v := .tuple #[.agg #[.bool false, .slice none 0 0, .slice none 0 0], .int .i64 5]) (by simp [results, Tryd.results18, go_sem, hcg]) rfl ⟨fun h => absurd HWQ.out h, fun _ _ => rfl, fun _ h => absurd (by rw [HR.out]; exact h) HQ.out, below3 hB7 (Nat.le_refl _) _ _ _⟩
              · obtain rfl := hno h2
                have HWQ : Hid (¬ wellQ S) := fun h => h2 (h.2 HHS.out)
                have hcg := q3w.cells
                have hfg := q3w.free
                clear hok hno h2 r13 hb4 h9
                go_wp2
                exact bodyPost_ret (v := .tuple #[.agg #[.bool false, .slice none 0 0, .slice none 0 0], .int .i64 14]) (by simp [results, Tryd.results18, go_sem, hcg]) rfl ⟨fun _ => rfl, fun h => absurd h HWQ.out, fun h => absurd h HWQ.out, below3 hBw (Nat.le_refl _) _ _ _⟩
            · obtain rfl := hno h1
              have HWQ : Hid (¬ wellQ S) := fun h => h1 h.1
              have hcg := q32.cells
              have hfg := q32.free
              clear hok hno h1
              go_wp2
              exact bodyPost_ret (v := .tuple #[.agg #[.bool false, .slice none 0 0, .slice none 0 0], .int .i64 14]) (by simp [results, Tryd.results18, go_sem, hcg]) rfl ⟨fun _ => rfl, fun h => absurd h HWQ.out, fun h => absurd h HWQ.out, below3 hB2 (Nat.le_refl _) _ _ _⟩
          · have hc47 : (((s[k]'hlt).toNat : Int) == 47) = false := by
              have h9 := slash_no (bodyT S) k (by omega)
              rw [hc]
              generalize (bodyT S).getD k 0 = x at h9 ⊢
              simp
              intro h8
              exact h9 (UInt8.toNat_inj.1 (by rw [show (47 : UInt8).toNat = 47 from rfl]; omega))
            clear hc
            go_wp2
            go_roundw
            case rel => exact ⟨k + 1, by omega, by go_num, by trivial⟩
            case measure => simp [intOf]; omega
        · have hks : k = slash (bodyT S) := by
            have h9 := slash_le (bodyT S)
            have h8 := HTL2.out
            omega
          have hq1 : ¬ (k : Int) < (s.size : Int) := by omega
          have HHS : Hid (hasB S = false) := by
            rw [Hid, hasB, decide_eq_false_iff_not, HTL2.out, ← hks]
            exact hlt
          have HU := hide (ext_top HTB.out hks)
          have hkt : k = s.size := by
            have h9 := slash_le (bodyT S)
            have h8 := HTL2.out
            omega
          have lU : (s.extract 0 k).size ≤ 1000 := by
            have h9 := HTS.out
            simp
            omega
          have hkl : (k : Int) ≤ (s.size : Int) := by omega
          clear hks hk hkt
          go_wp2_with fail
          refine (rparse_all _ _ _ HU.out (by omega)).mono ?_
          rintro e w2 ⟨hok, hno, hb2⟩
          have hB2 := below_step hb2 hS
          have q32 := q3.below hb2
          by_cases h1 : wellD (topT S)
          · obtain ⟨A1, n1, c1, rfl, r1⟩ := hok h1
            have hn1 := rd_few r1 h1 HTL.out
            have H1 := hide h1
            have hba := below_alloc w2 (.cells #[Value.int .u32 1] 40)
            have h9 := one_lit w2
            have r13 := r1.below hba
            have q33 := q32.below hba
            have hB3 := below_step hba hB2
            clear hok hno h1 hb2 hB2 q32 hba r1
            have HWQ : Hid (wellQ S) := ⟨H1.out, fun h => by rw [HHS.out] at h; cases h⟩
            have HE : Hid (ratOf false (val (limbs (pval (topT S)))) (val (limbs (1))) = r) := by
              rw [Hid, val_limbs, val_limbs, HR.out]
              unfold valQ denT
              rw [HHS.out, HNG.out]
              rfl
            have q3w := q33
            have hBw := hB3
            clear q33 hB3
            go_wp2_with fail
            refine (make_eqv (K := 1000) r13 h9 HE.out (by omega) (by omega) (by omega) (by omega)).mono ?_
            rintro e w6 ⟨A', n', c', B', m', d', rfl, hcan, hb6⟩
            obtain ⟨W6, hW6, hS6, q6⟩ := box1 w6 (qneg r) A' n' c' B' m' d'
            have HW6 := hide hW6
            have hc6 := q6.cells
            have hcan6 := hcan.below hS6
            have hb66 := below_step hS6 hb6
            have hB6 := below_step hb66 hBw
            have q36 := q3w.below hb66
            have hcall := rqtext_any _ _ _ _ _ _ _ r 1000 W6 hcan6.raw (by omega) (by omega)
            clear hW6 hcan hb6 hb66 q3w hBw
            go_wp2_with fail
            rw [← HW6.out]
            by_cases hq : qtxt r = S
            · have HQ := hide hq
              rw [hq, HSB.out] at hcall
              refine hcall.mono ?_
              rintro e w7 ⟨rfl, hb7⟩
              have q37 := q36.below hb7
              have hcg := q37.cells
              have hfg := q37.free
              have hc7 := (q6.below hb7).cells
              have hcan7 := hcan6.below hb7
              have hB7 := below_step hb7 hB6
              clear hc6 hq hcall q36 q6 HW6
              go_wp2
              exact bodyPost_ret (v := .tuple #[.agg #[.bool (qneg r), .slice A' n' c', .slice B' m' d'], .int .i64 0]) (by simp [results, Tryd.results18, go_sem, hcg]) rfl ⟨fun h => absurd HWQ.out h, fun _ h => absurd (by rw [← HR.out]; exact HQ.out) h, fun _ _ => ⟨A', n', c', B', m', d', by rw [← HR.out], by rw [← HR.out]; exact hcan7.store3 q37.noNum⟩, below3 hB7 (Nat.le_refl _) _ _ _⟩
            · have HQ := hide hq
              obtain ⟨X, hX⟩ : ∃ X : ByteArray, X = ⟨(qtxt r).toArray⟩ := ⟨_, rfl⟩
              have hXs : (X.toList == s.toList) = false := by
                rw [beq_eq_false_iff_ne, hX, ← HSB.out, ByteArray.toList_eq, ByteArray.toList_eq]
                intro h
                exact hq (by simpa using h)
              rw [← hX] at hcall
              refine hcall.mono ?_
              rintro e w7 ⟨rfl, hb7⟩
              have q37 := q36.below hb7
              have hcg := q37.cells
              have hfg := q37.free
              have hB7 := below_step hb7 hB6
              clear hc6 hq hcall q36 q6 HW6 hX hcan6
              go_wp2
              exact bodyPost_ret (v := .tuple #[.agg #[.bool false, .slice none 0 0, .slice none 0 0], .int .i64 5]) (by simp [results, Tryd.results18, go_sem, hcg]) rfl ⟨fun h => absurd HWQ.out h, fun _ _ => rfl, fun _ h => absurd (by rw [HR.out]; exact h) HQ.out, below3 hB7 (Nat.le_refl _) _ _ _⟩
          · obtain rfl := hno h1
            have HWQ : Hid (¬ wellQ S) := fun h => h1 h.1
            have hcg := q32.cells
            have hfg := q32.free
            clear hok hno h1
            go_wp2
            exact bodyPost_ret (v := .tuple #[.agg #[.bool false, .slice none 0 0, .slice none 0 0], .int .i64 14]) (by simp [results, Tryd.results18, go_sem, hcg]) rfl ⟨fun _ => rfl, fun h => absurd h HWQ.out, fun h => absurd h HWQ.out, below3 hB2 (Nat.le_refl _) _ _ _⟩
end Go.Proofs.YtfggecdgnidhfaaDoor
