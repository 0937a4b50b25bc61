/- Polynomials held against each other: the walks of SamePoly, EqualFunc, Same; Zero and One. -/
import Derived.Test.YtonimfogmplgdaaPolyE
import Derived.Test.YtonimfogmplgdaaEqual
namespace Go.Proofs.Ytonimfogmplgdaa
open Go.RowKit
theorem take_more {xs ys : List Nat} {i n : Nat} (h1 : xs.length = n) (h2 : ys.length = n) (hi : i < n) (ht : xs.take i = ys.take i) (he : xs.getD i 0 = ys.getD i 0) : xs.take (i + 1) = ys.take (i + 1) := by
  rw [List.take_succ_eq_append_getElem (by omega), List.take_succ_eq_append_getElem (by omega), ht]
  have : xs[i] = ys[i] := by simpa [List.getD_eq_getElem?_getD, h1, h2, hi] using he
  rw [this]
theorem limbs_eq_iff {x y : Nat} : limbs x = limbs y ↔ x = y := ⟨fun h => by rw [← val_limbs x, h, val_limbs], fun h => by rw [h]⟩
theorem ne_of_co {xs ys : List Nat} {i : Nat} (h : xs.getD i 0 ≠ ys.getD i 0) : decide (xs = ys) = false := decide_eq_false fun e => h (by rw [e])
set_option maxHeartbeats 2000000 in
theorem psame_any (w : World) (K L : Nat) (A : Option Addr) (n c : Nat) (B : Option Addr) (m c2 : Nat) (xs ys : List Nat) (h : RdV (natC K) 0 w 1 A n c xs) (h' : RdV (natC L) 0 w 1 B m c2 ys) :
    Calls Try.prog 19 #[.slice A n c, .slice B m c2] w (Makes (.bool (decide (xs = ys))) w) := by
  have h63 := h.le63
  have k63 := h'.le63
  have hl := h.len
  have hl' := h'.len
  have HL := hide hl
  have HL' := hide hl'
  by_cases hnm : n = m
  · subst hnm
    clear hl hl'
    go_enter Try.func19, Try.ntmps19
    go_wp2_with fail
    go_loopw [5] (fun iv wr => ∃ i : Nat, i ≤ n ∧ iv = .int .i64 (i : Int) ∧ xs.take i = ys.take i ∧ Below w.heap.size w wr) (fun iv _ => n - (intOf iv).toNat)
    case atStart => exact ⟨0, Nat.zero_le _, rfl, rfl, Below.refl _ _⟩
    case round =>
      obtain ⟨i, hi, rfl, ht, hS⟩ := hrel
      have HT0 := hide ht
      clear ht
      by_cases hlt : i < n
      · obtain ⟨b, o, v1, rfl, hb, hc1, A1, n1, c1, rfl, hr1, _⟩ := (h.below hS).at1 hlt
        obtain ⟨b2, o2, v2, rfl, hb2, hc2, A2, n2, c3, rfl, hr2, _⟩ := (h'.below hS).at1 hlt
        obtain ⟨W, hWd⟩ : ∃ W : World, W = wr := ⟨_, rfl⟩
        subst hWd
        have KA := hide (stays hc1)
        have KB := hide (stays hc2)
        have RA := hide hr1
        have RB := hide hr2
        have q1 : (i : Int) < (n : Int) := by omega
        clear hc1 hc2 hr1 hr2
        by_cases he : xs.getD i 0 = ys.getD i 0
        · have HD : Hid (decide (limbs (xs.getD i 0) = limbs (ys.getD i 0)) = true) := decide_eq_true (by rw [he])
          have HT := hide (take_more (by have := HL.out; omega) (by have := HL'.out; omega) hlt HT0.out he)
          clear he
          go_wp2_with fail
          refine wp_region_tab 10 27 [IsV (.slice (some ⟨b, o, none⟩) n c), IsV (.int .i64 (i : Int)), IsV (.pointer (some ⟨b, o + i, none⟩)), IsV (.slice A1 n1 c1), IsV (.slice (some ⟨b2, o2, none⟩) n c2), IsV (.int .i64 (i : Int)), IsV (.pointer (some ⟨b2, o2 + i, none⟩)), IsV (.slice A2 n2 c3), IsV (.bool true), IsV (.bool false)] (From W) (by kernel_rfl) (by kernel_rfl) (by kernel_rfl) rfl From.lastsP (From.drew (From.refl W)) ?_
          simp only [List.take_succ_cons, List.drop_succ_cons, List.take_nil, List.drop_nil]
          refine Tab.cons IsV.lasting (fun wx hx hd => ?_) (fun v17 => ?_)
          · skip
            clear hd
            intro KK hK
            go_simp
            exact hK.out _ _ rfl (Below.refl _ _)
          simp only [Act.put, List.setIfInBounds_toArray, List.set_cons_zero, List.set_cons_succ]
          refine Tab.cons IsV.lasting (fun wx hx hd => ?_) (fun v18 => ?_)
          · skip
            clear hd
            intro KK hK
            go_simp
            exact hK.out _ _ rfl (Below.refl _ _)
          simp only [Act.put, List.setIfInBounds_toArray, List.set_cons_zero, List.set_cons_succ]
          refine Tab.cons IsV.lasting (fun wx hx hd => ?_) (fun v19 => ?_)
          · skip
            have e17 : v17 = _ := (hd _ (.tail _ (.head _)) (by kernel_rfl) : (IsV (.slice (some ⟨b, o, none⟩) n c)) v17 wx)
            subst e17
            have e18 : v18 = _ := (hd _ (.head _) (by kernel_rfl) : (IsV (.int .i64 (i : Int))) v18 wx)
            subst e18
            clear hd
            intro KK hK
            go_simp
            exact hK.out _ _ rfl (Below.refl _ _)
          simp only [Act.put, List.setIfInBounds_toArray, List.set_cons_zero, List.set_cons_succ]
          refine Tab.cons IsV.lasting (fun wx hx hd => ?_) (fun v20 => ?_)
          · skip
            have e19 : v19 = _ := (hd _ (.head _) (by kernel_rfl) : (IsV (.pointer (some ⟨b, o + i, none⟩))) v19 wx)
            subst e19
            clear hd
            intro KK hK
            have hcell0 := KA.out _ hx
            go_simp
            exact hK.out _ _ rfl (Below.refl _ _)
          simp only [Act.put, List.setIfInBounds_toArray, List.set_cons_zero, List.set_cons_succ]
          refine Tab.cons IsV.lasting (fun wx hx hd => ?_) (fun v21 => ?_)
          · skip
            clear hd
            intro KK hK
            go_simp
            exact hK.out _ _ rfl (Below.refl _ _)
          simp only [Act.put, List.setIfInBounds_toArray, List.set_cons_zero, List.set_cons_succ]
          refine Tab.cons IsV.lasting (fun wx hx hd => ?_) (fun v22 => ?_)
          · skip
            clear hd
            intro KK hK
            go_simp
            exact hK.out _ _ rfl (Below.refl _ _)
          simp only [Act.put, List.setIfInBounds_toArray, List.set_cons_zero, List.set_cons_succ]
          refine Tab.cons IsV.lasting (fun wx hx hd => ?_) (fun v23 => ?_)
          · skip
            have e21 : v21 = _ := (hd _ (.tail _ (.head _)) (by kernel_rfl) : (IsV (.slice (some ⟨b2, o2, none⟩) n c2)) v21 wx)
            subst e21
            have e22 : v22 = _ := (hd _ (.head _) (by kernel_rfl) : (IsV (.int .i64 (i : Int))) v22 wx)
            subst e22
            clear hd
            intro KK hK
            go_simp
            exact hK.out _ _ rfl (Below.refl _ _)
          simp only [Act.put, List.setIfInBounds_toArray, List.set_cons_zero, List.set_cons_succ]
          refine Tab.cons IsV.lasting (fun wx hx hd => ?_) (fun v24 => ?_)
          · skip
            have e23 : v23 = _ := (hd _ (.head _) (by kernel_rfl) : (IsV (.pointer (some ⟨b2, o2 + i, none⟩))) v23 wx)
            subst e23
            clear hd
            intro KK hK
            have hcell0 := KB.out _ hx
            go_simp
            exact hK.out _ _ rfl (Below.refl _ _)
          simp only [Act.put, List.setIfInBounds_toArray, List.set_cons_zero, List.set_cons_succ]
          refine Tab.cons IsV.lasting (fun wx hx hd => ?_) (fun v25 => ?_)
          · skip
            have e20 : v20 = _ := (hd _ (.tail _ (.tail _ (.tail _ (.tail _ (.head _))))) (by kernel_rfl) : (IsV (.slice A1 n1 c1)) v20 wx)
            subst e20
            have e24 : v24 = _ := (hd _ (.head _) (by kernel_rfl) : (IsV (.slice A2 n2 c3)) v24 wx)
            subst e24
            clear hd
            intro KK hK
            go_simp
            have hct := rsame_any _ _ _ _ _ _ _ _ _ (RA.out.below hx.out) (RB.out.below hx.out)
            rw [HD.out] at hct
            refine hct.mono ?_
            rintro e w' ⟨rfl, hb'⟩
            exact hK.out _ _ rfl hb'
          simp only [Act.put, List.setIfInBounds_toArray, List.set_cons_zero, List.set_cons_succ]
          refine Tab.cons IsV.lasting (fun wx hx hd => ?_) (fun v26 => ?_)
          · skip
            have e25 : v25 = _ := (hd _ (.head _) (by kernel_rfl) : (IsV (.bool true)) v25 wx)
            subst e25
            clear hd
            intro KK hK
            go_simp
            exact hK.out _ _ rfl (Below.refl _ _)
          simp only [Act.put, List.setIfInBounds_toArray, List.set_cons_zero, List.set_cons_succ]
          refine Tab.nil fun wx hx hd => ?_
          have e26 : v26 = _ := (hd _ (.head _) : (IsV (.bool false)) v26 wx)
          subst e26
          clear hd
          clear q1
          go_wp2
          go_roundw
          case rel => exact ⟨i + 1, by omega, by go_num, HT.out, below_step hx.out hS⟩
          case measure => simp [intOf]; omega
        · have HD : Hid (decide (limbs (xs.getD i 0) = limbs (ys.getD i 0)) = false) := decide_eq_false fun e => he (limbs_eq_iff.1 e)
          have HNE := hide (ne_of_co he)
          clear he
          go_wp2_with fail
          refine wp_region_tab 10 27 [IsV (.slice (some ⟨b, o, none⟩) n c), IsV (.int .i64 (i : Int)), IsV (.pointer (some ⟨b, o + i, none⟩)), IsV (.slice A1 n1 c1), IsV (.slice (some ⟨b2, o2, none⟩) n c2), IsV (.int .i64 (i : Int)), IsV (.pointer (some ⟨b2, o2 + i, none⟩)), IsV (.slice A2 n2 c3), IsV (.bool false), IsV (.bool true)] (From W) (by kernel_rfl) (by kernel_rfl) (by kernel_rfl) rfl From.lastsP (From.drew (From.refl W)) ?_
          simp only [List.take_succ_cons, List.drop_succ_cons, List.take_nil, List.drop_nil]
          refine Tab.cons IsV.lasting (fun wx hx hd => ?_) (fun v17 => ?_)
          · skip
            clear hd
            intro KK hK
            go_simp
            exact hK.out _ _ rfl (Below.refl _ _)
          simp only [Act.put, List.setIfInBounds_toArray, List.set_cons_zero, List.set_cons_succ]
          refine Tab.cons IsV.lasting (fun wx hx hd => ?_) (fun v18 => ?_)
          · skip
            clear hd
            intro KK hK
            go_simp
            exact hK.out _ _ rfl (Below.refl _ _)
          simp only [Act.put, List.setIfInBounds_toArray, List.set_cons_zero, List.set_cons_succ]
          refine Tab.cons IsV.lasting (fun wx hx hd => ?_) (fun v19 => ?_)
          · skip
            have e17 : v17 = _ := (hd _ (.tail _ (.head _)) (by kernel_rfl) : (IsV (.slice (some ⟨b, o, none⟩) n c)) v17 wx)
            subst e17
            have e18 : v18 = _ := (hd _ (.head _) (by kernel_rfl) : (IsV (.int .i64 (i : Int))) v18 wx)
            subst e18
            clear hd
            intro KK hK
            go_simp
            exact hK.out _ _ rfl (Below.refl _ _)
          simp only [Act.put, List.setIfInBounds_toArray, List.set_cons_zero, List.set_cons_succ]
          refine Tab.cons IsV.lasting (fun wx hx hd => ?_) (fun v20 => ?_)
          · skip
            have e19 : v19 = _ := (hd _ (.head _) (by kernel_rfl) : (IsV (.pointer (some ⟨b, o + i, none⟩))) v19 wx)
            subst e19
            clear hd
            intro KK hK
            have hcell0 := KA.out _ hx
            go_simp
            exact hK.out _ _ rfl (Below.refl _ _)
          simp only [Act.put, List.setIfInBounds_toArray, List.set_cons_zero, List.set_cons_succ]
          refine Tab.cons IsV.lasting (fun wx hx hd => ?_) (fun v21 => ?_)
          · skip
            clear hd
            intro KK hK
            go_simp
            exact hK.out _ _ rfl (Below.refl _ _)
          simp only [Act.put, List.setIfInBounds_toArray, List.set_cons_zero, List.set_cons_succ]
          refine Tab.cons IsV.lasting (fun wx hx hd => ?_) (fun v22 => ?_)
          · skip
            clear hd
            intro KK hK
            go_simp
            exact hK.out _ _ rfl (Below.refl _ _)
          simp only [Act.put, List.setIfInBounds_toArray, List.set_cons_zero, List.set_cons_succ]
          refine Tab.cons IsV.lasting (fun wx hx hd => ?_) (fun v23 => ?_)
          · skip
            have e21 : v21 = _ := (hd _ (.tail _ (.head _)) (by kernel_rfl) : (IsV (.slice (some ⟨b2, o2, none⟩) n c2)) v21 wx)
            subst e21
            have e22 : v22 = _ := (hd _ (.head _) (by kernel_rfl) : (IsV (.int .i64 (i : Int))) v22 wx)
            subst e22
            clear hd
            intro KK hK
            go_simp
            exact hK.out _ _ rfl (Below.refl _ _)
          simp only [Act.put, List.setIfInBounds_toArray, List.set_cons_zero, List.set_cons_succ]
          refine Tab.cons IsV.lasting (fun wx hx hd => ?_) (fun v24 => ?_)
          · skip
            have e23 : v23 = _ := (hd _ (.head _) (by kernel_rfl) : (IsV (.pointer (some ⟨b2, o2 + i, none⟩))) v23 wx)
            subst e23
            clear hd
            intro KK hK
            have hcell0 := KB.out _ hx
            go_simp
            exact hK.out _ _ rfl (Below.refl _ _)
          simp only [Act.put, List.setIfInBounds_toArray, List.set_cons_zero, List.set_cons_succ]
          refine Tab.cons IsV.lasting (fun wx hx hd => ?_) (fun v25 => ?_)
          · skip
            have e20 : v20 = _ := (hd _ (.tail _ (.tail _ (.tail _ (.tail _ (.head _))))) (by kernel_rfl) : (IsV (.slice A1 n1 c1)) v20 wx)
            subst e20
            have e24 : v24 = _ := (hd _ (.head _) (by kernel_rfl) : (IsV (.slice A2 n2 c3)) v24 wx)
            subst e24
            clear hd
            intro KK hK
            go_simp
            have hct := rsame_any _ _ _ _ _ _ _ _ _ (RA.out.below hx.out) (RB.out.below hx.out)
            rw [HD.out] at hct
            refine hct.mono ?_
            rintro e w' ⟨rfl, hb'⟩
            exact hK.out _ _ rfl hb'
          simp only [Act.put, List.setIfInBounds_toArray, List.set_cons_zero, List.set_cons_succ]
          refine Tab.cons IsV.lasting (fun wx hx hd => ?_) (fun v26 => ?_)
          · skip
            have e25 : v25 = _ := (hd _ (.head _) (by kernel_rfl) : (IsV (.bool false)) v25 wx)
            subst e25
            clear hd
            intro KK hK
            go_simp
            exact hK.out _ _ rfl (Below.refl _ _)
          simp only [Act.put, List.setIfInBounds_toArray, List.set_cons_zero, List.set_cons_succ]
          refine Tab.nil fun wx hx hd => ?_
          have e26 : v26 = _ := (hd _ (.head _) : (IsV (.bool true)) v26 wx)
          subst e26
          clear hd
          have hB6 := below_step hx.out hS
          clear q1 hx
          go_wp2
          go_ret
          exact ⟨by rw [HNE.out]; rfl, hB6⟩
      · obtain rfl : n = i := by omega
        have ht := HT0.out
        rw [List.take_of_length_le (by have := HL.out; omega), List.take_of_length_le (by have := HL'.out; omega)] at ht
        have HE := hide (show decide (xs = ys) = true from decide_eq_true ht)
        clear ht
        go_wp2
        go_ret
        exact ⟨by rw [HE.out]; rfl, hS⟩
  · have HE := hide (show decide (xs = ys) = false from decide_eq_false fun e => hnm (by have := congrArg List.length e; omega))
    have hne : ((n : Int) != (m : Int)) = true := by simp; omega
    clear hl hl'
    go_enter Try.func19, Try.ntmps19
    go_wp2
    go_ret
    exact ⟨by rw [HE.out]; rfl, Below.refl _ _⟩
theorem same1_any (A : Option Addr) (n c : Nat) (l : List Nat) (B : Option Addr) (m d : Nat) (k : List Nat) (w : World) (h : Rd w A n c l) (h' : Rd w B m d k) :
    Calls Try.prog 50 #[.slice A n c, .slice B m d] w (Makes (.bool (decide (l = k))) w) := by
  go_enter Try.func50, Try.ntmps50
  go_wp2_with fail
  refine (sequal_any A n c l B m d k w h h').mono ?_
  rintro e w1 ⟨rfl, hb1⟩
  go_wp2
  go_ret
  exact ⟨rfl, hb1⟩
set_option maxHeartbeats 2000000 in
theorem equalFunc_any (w : World) (K L : Nat) (A : Option Addr) (n c : Nat) (B : Option Addr) (m c2 : Nat) (xs ys : List Nat) (h : RdV (natC K) 0 w 1 A n c xs) (h' : RdV (natC L) 0 w 1 B m c2 ys) :
    Calls Try.prog 49 #[.slice A n c, .slice B m c2, .func (.func 50) #[] #[]] w (Makes (.bool (decide (xs = ys))) w) := by
  have h63 := h.le63
  have k63 := h'.le63
  have hl := h.len
  have hl' := h'.len
  have HL := hide hl
  have HL' := hide hl'
  by_cases hnm : n = m
  · subst hnm
    clear hl hl'
    go_enter Try.func49, Try.ntmps49
    go_wp2_with fail
    go_loopw [7, 8, 9, 17] (fun _ _ _ iv wr => ∃ i : Nat, i ≤ n ∧ iv = .int .i64 (i : Int) ∧ xs.take i = ys.take i ∧ Below w.heap.size w wr) (fun _ _ _ iv _ => n - (intOf iv).toNat)
    case atStart => exact ⟨0, Nat.zero_le _, rfl, rfl, Below.refl _ _⟩
    case round =>
      obtain ⟨i, hi, rfl, ht, hS⟩ := hrel
      have HT0 := hide ht
      clear ht
      by_cases hlt : i < n
      · obtain ⟨b, o, v1, rfl, hb, hc1, A1, n1, c1, rfl, hr1, _⟩ := (h.below hS).at1 hlt
        obtain ⟨b2, o2, v2, rfl, hb2, hc2, A2, n2, c3, rfl, hr2, _⟩ := (h'.below hS).at1 hlt
        have hcall := same1_any _ _ _ _ _ _ _ _ wr hr1 hr2
        clear hr1 hr2
        by_cases he : xs.getD i 0 = ys.getD i 0
        · rw [show decide (limbs (xs.getD i 0) = limbs (ys.getD i 0)) = true from decide_eq_true (by rw [he])] at hcall
          have HT := hide (take_more (by have := HL.out; omega) (by have := HL'.out; omega) hlt HT0.out he)
          have HC := hide hcall
          clear he hcall
          go_wp2_with fail
          refine HC.out.mono ?_
          rintro e w2 ⟨rfl, hb2⟩
          have HS2 := hide (below_step hb2 hS)
          clear hb2 hc1 hc2
          go_wp2
          go_roundw
          case rel => exact ⟨i + 1, by omega, by go_num, HT.out, HS2.out⟩
          case measure => simp [intOf]; omega
        · rw [show decide (limbs (xs.getD i 0) = limbs (ys.getD i 0)) = false from decide_eq_false fun e => he (limbs_eq_iff.1 e)] at hcall
          have HNE := hide (ne_of_co he)
          have HC := hide hcall
          clear he hcall
          go_wp2_with fail
          refine HC.out.mono ?_
          rintro e w2 ⟨rfl, hb2⟩
          have HS2 := hide (below_step hb2 hS)
          clear hb2 hc1 hc2
          go_wp2
          go_ret
          exact ⟨by rw [HNE.out]; rfl, HS2.out⟩
      · obtain rfl : n = i := by omega
        have ht := HT0.out
        rw [List.take_of_length_le (by have := HL.out; omega), List.take_of_length_le (by have := HL'.out; omega)] at ht
        have HE := hide (show decide (xs = ys) = true from decide_eq_true ht)
        clear ht
        go_wp2
        go_ret
        exact ⟨by rw [HE.out]; rfl, hS⟩
  · have HE := hide (show decide (xs = ys) = false from decide_eq_false fun e => hnm (by have := congrArg List.length e; omega))
    have hne : ((n : Int) != (m : Int)) = true := by simp; omega
    clear hl hl'
    go_enter Try.func49, Try.ntmps49
    go_wp2
    go_ret
    exact ⟨by rw [HE.out]; rfl, Below.refl _ _⟩
theorem esame_any (w : World) (A : Option Addr) (n c : Nat) (ll : List (List Nat)) (K : Nat) (h : RdL w A n c ll) (hK : ∀ k, (ll.getD k []).length ≤ K) (A2 : Option Addr) (n2 c2 : Nat) (kk : List (List Nat)) (L : Nat) (h' : RdL w A2 n2 c2 kk) (hL : ∀ k, (kk.getD k []).length ≤ L)
    (hK1 : K ≤ 100000) (hL1 : L ≤ 100000) (hn : n ≤ 100000) (hn2 : n2 ≤ 100000) :
    Calls Try.prog 25 #[.agg #[], .slice A n c, .slice A2 n2 c2] w (Makes (.bool (decide (trimN (ll.map val) = trimN (kk.map val)))) w) := by
  obtain ⟨W0, hW0⟩ : ∃ W0, W0 = w.alloc (.cells #[] 37) := ⟨_, rfl⟩
  have hS : Below w.heap.size w W0 := by rw [hW0]; exact below_alloc w _
  have h1 := h.below hS
  have h2 := h'.below hS
  have HW := hide hW0
  clear hW0 h h'
  go_enter Try.func25, Try.ntmps25
  go_upto_region 1 with (fail)
  rw [← HW.out]
  go_wp2_with fail
  refine (enumerator_any _ A n c ll K h1 hK hK1 hn).mono ?_
  rintro e w1 ⟨A3, n3, c3, rfl, r1, hb1⟩
  go_wp2_with fail
  refine (enumerator_any _ A2 n2 c2 kk L (h2.below hb1) hL hL1 hn2).mono ?_
  rintro e w2 ⟨A4, n4, c4, rfl, r2, hb2⟩
  have q1 := r1.below hb2
  have hB := below_step (below_step hb2 hb1) hS
  clear r1 hb1 hb2
  go_wp2_with fail
  refine (equalFunc_any _ K L _ _ _ _ _ _ _ _ q1 r2).mono ?_
  rintro e w3 ⟨rfl, hb3⟩
  go_wp2
  go_ret
  exact ⟨rfl, below_step hb3 hB⟩
theorem pzero_any (w : World) (K : Nat) : Calls Try.prog 18 #[.agg #[]] w (RetP [] K w) := by
  have hb := ((Below.refl w.heap.size w).alloc (Nat.le_refl _) (.cells #[] 37)).alloc (by simp) (.cells #[] 23)
  go_enter Try.func18, Try.ntmps18
  go_wp2
  go_ret
  exact ⟨_, 0, 0, rfl, ⟨rfl, Nat.le_refl _, Nat.zero_le _, fun h => absurd h (by omega)⟩, hb⟩
theorem pone_any (w : World) : Calls Try.prog 20 #[.agg #[]] w (RetP [1] 1 w) := by
  have hb0 := (Below.refl w.heap.size w).alloc (Nat.le_refl _) (.cells #[] 37)
  go_enter Try.func20, Try.ntmps20
  go_wp2_with fail
  refine (of_any 1 _ (by omega)).mono ?_
  rintro e w1 ⟨A1, n1, c1, rfl, h1, hb1⟩
  have h9 : Rd w1 A1 n1 c1 (limbs 1) := by simpa only [val_limbs] using h1
  have hn : n1 ≤ 1 := by rw [← h9.len]; exact length_limbs_le (by omega)
  have hb2 := below_step (below_alloc w1 (.cells #[.slice A1 n1 c1] 23)) (below_step hb1 hb0)
  have hr : RdV (natC 1) 0 (w1.alloc (.cells #[.slice A1 n1 c1] 23)) 1 (some ⟨w1.heap.size, 0, none⟩) 1 1 [1] := by
    refine ⟨rfl, Nat.le_refl _, by decide, fun _ => ⟨w1.heap.size, 0, rfl, by simp, fun k hk => ?_⟩⟩
    obtain rfl : k = 0 := by omega
    exact ⟨_, by rw [cell_of_row _ _ _ _ _ _ (heap_alloc_new w1 _)]; rfl, A1, n1, c1, rfl, h9.below (below_alloc w1 _), hn⟩
  have HR := hide (And.intro hr hb2)
  clear h1 h9 hn hb2 hr hb1 hb0
  go_wp2
  go_ret
  exact ⟨_, 1, 1, rfl, HR.out.1, HR.out.2⟩
end Go.Proofs.Ytonimfogmplgdaa
