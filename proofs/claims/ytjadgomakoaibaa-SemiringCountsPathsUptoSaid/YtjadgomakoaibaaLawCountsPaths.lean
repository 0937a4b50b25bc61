/- The walk of the law SemiringCountsPaths, for lists of a bounded length. -/
import Derived.Test.YtjadgomakoaibaaRefFwdNat
import Derived.Test.YtjadgomakoaibaaFwdNat
import Derived.Test.YtjadgomakoaibaaSamePoly
import Derived.Test.YtjadgomakoaibaaFew
import Derived.Test.YtjadgomakoaibaaBoxG
namespace Go.Proofs.Ytjadgomakoaibaa
open Go.RowKit
theorem natOf_lens (V : List (List Int)) : (V.map fun l => l.map natOf).map List.length = V.map List.length := by simp [Function.comp_def]
theorem natOf_at {V : List (List Int)} (h : ∀ i j, at2 0 V i j ≤ 9223372036854775807) (i j : Nat) : at2 0 (V.map fun l => l.map natOf) i j < 18446744073709551616 := by
  unfold at2
  have h1 : (V.map fun l => l.map natOf).getD i [] = (V.getD i []).map natOf := by
    simp only [List.getD_eq_getElem?_getD, List.getElem?_map]
    cases V[i]? <;> rfl
  rw [h1]
  have h2 : ((V.getD i []).map natOf).getD j 0 = natOf ((V.getD i []).getD j 0) := by
    simp only [List.getD_eq_getElem?_getD, List.getElem?_map]
    cases (V[i]?.getD [])[j]? <;> rfl
  rw [h2]
  have h3 := h i j
  unfold at2 at h3
  unfold natOf
  omega
theorem RdR.int_le {w : World} {A : Option Addr} {n c : Nat} {V : List (List Int)} (h : RdR intC 0 w 1 A n c V) (i j : Nat) : at2 0 V i j ≤ 9223372036854775807 := by
  unfold at2
  by_cases hi : i < n
  · obtain ⟨b, off, Ai, m, e, _, _, _, hv⟩ := h.at hi
    by_cases hj : j < m
    · obtain ⟨_, _, v, _, _, _, h1, _, h2⟩ := hv.at1 hj
      exact h2
    · have := hv.len
      rw [List.getD_eq_getElem?_getD, List.getElem?_eq_none (by omega)]
      decide
  · have := h.len
    have e : V.getD i [] = [] := by rw [List.getD_eq_getElem?_getD, List.getElem?_eq_none (by omega)]; rfl
    rw [e]
    simp

set_option maxHeartbeats 4000000 in
set_option maxRecDepth 10000 in
theorem law_SemiringCountsPaths (w : World) (AW : Option Addr) (nW cW : Nat) (Ws : List Int) (AE : Option Addr) (nE cE : Nat) (ee : List (List EdgeT)) (hW : RdI w AW nW cW Ws) (hE : RdEE w AE nE cE ee)
    (A : Option Addr) (n c : Nat) (V : List (List Int)) (hV : RdR intC 0 w 1 A n c V) (hn : n ≤ 8796093022208) (hrow : ∀ i, i < n → (V.getD i []).length ≤ 8796093022208) :
    Calls Try.prog 3 #[.agg #[.slice AW nW cW, .slice AE nE cE, .slice A n c]] w (Makes (.bool true) w) := by
  obtain ⟨W0, hW0, hS, hz, hc0, hc1, hc2⟩ := boxG w AW nW cW AE nE cE A n c
  have hn : n ≤ 35184372088832 := by omega
  have h1 := hW.below hS
  have h2 := hE.below hS
  have h3 := hV.below hS
  have HW := hide hW0
  have HROW := hide hrow
  have HXB := hide (natOf_at hV.int_le)
  have HLL := hide (natOf_lens V)
  have hcells : ∀ w', Below W0.heap.size W0 w' → w'.cell? ⟨w.heap.size, 0, none⟩ = some (.slice AW nW cW) ∧ w'.cell? ⟨w.heap.size, 1, none⟩ = some (.slice AE nE cE) ∧ w'.cell? ⟨w.heap.size, 2, none⟩ = some (.slice A n c) := fun w' hb =>
    ⟨(hb.cell (p := ⟨w.heap.size, 0, none⟩) hz).trans hc0, (hb.cell (p := ⟨w.heap.size, 1, none⟩) hz).trans hc1, (hb.cell (p := ⟨w.heap.size, 2, none⟩) hz).trans hc2⟩
  have HCELLS := hide hcells
  clear hW0 hc0 hc1 hc2 hz hW hE hV hcells hrow
  go_enter Try.func3, Try.ntmps3
  go_upto_region 1 with (fail)
  rw [← HW.out]
  go_wp2_with fail
  refine (alive_any _).mono ?_
  rintro e w1 ⟨rfl, hb1⟩
  obtain ⟨hc0, hc1, hc2⟩ := HCELLS.out w1 hb1
  go_wp2_with fail
  refine (few_any w1 AW nW cW Ws AE nE cE ee (h1.below hb1) (h2.below hb1) A n c _ (h3.below hb1).lens hn 1000 (by omega)).mono ?_
  rintro e w2 ⟨q, rfl, hb2⟩
  have hB := hb1.trans (hb2.mono hb1.size)
  clear hc0 hc1 hc2 hb1 hb2
  cases q with
  | false =>
    go_wp2
    go_ret
    exact ⟨rfl, below_step hB hS⟩
  | true =>
    obtain ⟨hc0, hc1, hc2⟩ := HCELLS.out w2 hB
    go_wp2_with fail
    refine (nats_any w2 A n c V (h3.below hB) (by omega) HROW.out).mono ?_
    rintro e wn ⟨GN, nN, cN, vsN, rfl, hGN, hbn⟩
    replace hB := hB.trans (hbn.mono hB.size)
    have hN := hGN.rd
    clear hc0 hc1 hc2 hGN hbn
    obtain ⟨hc0, hc1, hc2⟩ := HCELLS.out wn hB
    obtain ⟨VN, hVN⟩ : ∃ VN, VN = V.map fun l => l.map natOf := ⟨_, rfl⟩
    have HVN := hide hVN
    rw [← hVN] at hN HXB HLL
    clear hVN
    by_cases hf : fitsV Ws ee (V.map List.length) = 0
    · have HF := hide hf
      clear hf
      go_wp2_with fail
      refine (forward_nat wn AW nW cW Ws AE nE cE ee (h1.below hB) (h2.below hB) GN nN cN VN hN (by rw [HLL.out]; exact HF.out) HXB.out).mono ?_
      rintro e w3 ⟨Gf, nf, cf, vsf, rfl, hGf, hb3⟩
      replace hB := hB.trans (hb3.mono hB.size)
      have hN3 := hN.below hb3
      have hrF := hGf.rd
      clear hc0 hc1 hc2 hGf hb3 hN
      obtain ⟨hc0, hc1, hc2⟩ := HCELLS.out w3 hB
      obtain ⟨W, hWd⟩ : ∃ W : World, W = w3 := ⟨_, rfl⟩
      subst hWd
      have C0 := hide (stays hc0)
      have C1 := hide (stays hc1)
      have C2 := hide (stays hc2)
      clear hc0 hc1 hc2
      go_wp2_with fail
      refine wp_region_tab 7 64 [IsV (.pointer (some ⟨w.heap.size, 0, none⟩)), IsV (.agg #[.slice AW nW cW, .slice AE nE cE]), IsV (.pointer (some ⟨w.heap.size, 2, none⟩)), IsV (.slice A n c), IsI (natI (V.map List.length)), IsV (.int .i64 0), IsV (.int .i64 0)] (From W) (by kernel_rfl) (by kernel_rfl) (by kernel_rfl) rfl From.lasts (From.drew (From.refl W)) ?_
      simp only [List.take_succ_cons, List.drop_succ_cons, List.take_nil, List.drop_nil]
      refine Tab.cons IsV.lasting (fun wx hx hd => ?_) (fun v25 => ?_)
      · skip
        clear hd
        intro KK hK
        go_simp
        exact hK.out _ _ rfl (Below.refl _ _)
      simp only [Act.put, List.setIfInBounds_toArray, List.set_cons_zero, List.set_cons_succ]
      refine Tab.cons IsV.lasting (fun wx hx hd => ?_) (fun v26 => ?_)
      · skip
        have e25 : v25 = _ := (hd _ (.head _) (by kernel_rfl) : (IsV (.pointer (some ⟨w.heap.size, 0, none⟩))) v25 wx)
        subst e25
        clear hd
        intro KK hK
        have hcell0 := C0.out _ hx
        have hcell1 := C1.out _ hx
        go_simp
        exact hK.out _ _ rfl (Below.refl _ _)
      simp only [Act.put, List.setIfInBounds_toArray, List.set_cons_zero, List.set_cons_succ]
      refine Tab.cons IsV.lasting (fun wx hx hd => ?_) (fun v27 => ?_)
      · skip
        clear hd
        intro KK hK
        go_simp
        exact hK.out _ _ rfl (Below.refl _ _)
      simp only [Act.put, List.setIfInBounds_toArray, List.set_cons_zero, List.set_cons_succ]
      refine Tab.cons IsV.lasting (fun wx hx hd => ?_) (fun v28 => ?_)
      · skip
        have e27 : v27 = _ := (hd _ (.head _) (by kernel_rfl) : (IsV (.pointer (some ⟨w.heap.size, 2, none⟩))) v27 wx)
        subst e27
        clear hd
        intro KK hK
        have hcell0 := C2.out _ hx
        go_simp
        exact hK.out _ _ rfl (Below.refl _ _)
      simp only [Act.put, List.setIfInBounds_toArray, List.set_cons_zero, List.set_cons_succ]
      refine Tab.cons IsI.lasting (fun wx hx hd => ?_) (fun v29 => ?_)
      · skip
        have e28 : v28 = _ := (hd _ (.head _) (by kernel_rfl) : (IsV (.slice A n c)) v28 wx)
        subst e28
        clear hd
        intro KK hK
        go_simp
        refine (counts_any _ A n c _ (h3.below (hB.trans (hx.out.mono hB.size))).lens hn).mono ?_
        rintro e w' ⟨A', n', c', rfl, h', hb'⟩
        exact hK.out _ _ ⟨A', n', c', rfl, h'⟩ hb'
      simp only [Act.put, List.setIfInBounds_toArray, List.set_cons_zero, List.set_cons_succ]
      refine Tab.cons IsV.lasting (fun wx hx hd => ?_) (fun v30 => ?_)
      · skip
        have e26 : v26 = _ := (hd _ (.tail _ (.tail _ (.tail _ (.head _)))) (by kernel_rfl) : (IsV (.agg #[.slice AW nW cW, .slice AE nE cE])) v26 wx)
        subst e26
        obtain ⟨A29, n29, c29, rfl, h29⟩ := (hd _ (.head _) (by kernel_rfl) : (IsI (natI (V.map List.length))) v29 wx)
        clear hd
        intro KK hK
        go_simp
        have hct := fits_any _ AW nW cW Ws AE nE cE ee (h1.below (hB.trans (hx.out.mono hB.size))) (h2.below (hB.trans (hx.out.mono hB.size))) _ _ _ _ h29
        rw [HF.out] at hct
        refine hct.mono ?_
        rintro e w' ⟨rfl, hb'⟩
        exact hK.out _ _ rfl hb'
      simp only [Act.put, List.setIfInBounds_toArray, List.set_cons_zero, List.set_cons_succ]
      refine Tab.cons IsV.lasting (fun wx hx hd => ?_) (fun v6 => ?_)
      · skip
        have e30 : v30 = _ := (hd _ (.head _) (by kernel_rfl) : (IsV (.int .i64 0)) v30 wx)
        subst e30
        clear hd
        intro KK hK
        go_simp
        exact hK.out _ _ rfl (Below.refl _ _)
      simp only [Act.put, List.setIfInBounds_toArray, List.set_cons_zero, List.set_cons_succ]
      refine Tab.nil fun wx hx hd => ?_
      have e6 : v6 = _ := (hd _ (.head _) : (IsV (.int .i64 0)) v6 wx)
      subst e6
      clear hd
      replace hx := hx.out
      have hB9 := hB.trans (hx.mono hB.size)
      clear hB
      obtain ⟨hc0, hc1, hc2⟩ := HCELLS.out _ hB9
      go_wp2_with fail
      refine (rforward_nat _ AW nW cW Ws AE nE cE ee (h1.below hB9) (h2.below hB9) GN nN cN VN (hN3.below hx) HXB.out (by rw [HLL.out]; exact HF.out)).mono ?_
      rintro e w6 ⟨G6, n6, c6, vs6, rfl, hG6, hb6⟩
      have hB6 := hB9.trans (hb6.mono hB9.size)
      have hrW := hG6.rd
      have hrF6 := (hrF.below hx).below hb6
      obtain rfl : nf = n6 := by rw [← hrF6.len, ← hrW.len]
      have h63 := hrW.le63
      clear hc0 hc1 hc2 hG6 hb6 hB9 hrF hx hN3
      go_wp2_with fail
      go_loopw [8] (fun iv wr => ∃ i : Nat, i ≤ nf ∧ iv = .int .i64 (i : Int) ∧ Below w6.heap.size w6 wr) (fun iv _ => nf - (intOf iv).toNat)
      case atStart => exact ⟨0, Nat.zero_le _, rfl, Below.refl _ _⟩
      case round =>
        obtain ⟨i, hi, rfl, hS9⟩ := hrel
        by_cases hlt : i < nf
        · obtain ⟨b, o, A1, n1, c1, rfl, hb, hcA, hrA⟩ := (hrF6.below hS9).at hlt
          obtain ⟨b2, o2, A2, n2, c3, rfl, hb2, hcB, hrB⟩ := (hrW.below hS9).at hlt
          obtain ⟨W9, hWd⟩ : ∃ W9 : World, W9 = wr := ⟨_, rfl⟩
          subst hWd
          have KA := hide (stays hcA)
          have KB := hide (stays hcB)
          have RA := hide hrA
          have RB := hide hrB
          have q1 : (i : Int) < (nf : Int) := by omega
          clear hcA hcB hrA hrB
          go_wp2_with fail
          refine wp_region_tab 10 64 [IsV (.slice (some ⟨b, o, none⟩) nf cf), IsV (.int .i64 (i : Int)), IsV (.pointer (some ⟨b, o + i, none⟩)), IsV (.slice A1 n1 c1), IsV (.slice (some ⟨b2, o2, none⟩) nf c6), IsV (.int .i64 (i : Int)), IsV (.pointer (some ⟨b2, o2 + i, none⟩)), IsV (.slice A2 n2 c3), IsV (.bool true), IsV (.bool false)] (From W9) (by kernel_rfl) (by kernel_rfl) (by kernel_rfl) rfl From.lasts (From.drew (From.refl W9)) ?_
          simp only [List.take_succ_cons, List.drop_succ_cons, List.take_nil, List.drop_nil]
          refine Tab.cons IsV.lasting (fun wx hx hd => ?_) (fun v54 => ?_)
          · skip
            clear hd
            intro KK hK
            go_simp
            exact hK.out _ _ rfl (Below.refl _ _)
          simp only [Act.put, List.setIfInBounds_toArray, List.set_cons_zero, List.set_cons_succ]
          refine Tab.cons IsV.lasting (fun wx hx hd => ?_) (fun v55 => ?_)
          · skip
            clear hd
            intro KK hK
            go_simp
            exact hK.out _ _ rfl (Below.refl _ _)
          simp only [Act.put, List.setIfInBounds_toArray, List.set_cons_zero, List.set_cons_succ]
          refine Tab.cons IsV.lasting (fun wx hx hd => ?_) (fun v56 => ?_)
          · skip
            have e54 : v54 = _ := (hd _ (.tail _ (.head _)) (by kernel_rfl) : (IsV (.slice (some ⟨b, o, none⟩) nf cf)) v54 wx)
            subst e54
            have e55 : v55 = _ := (hd _ (.head _) (by kernel_rfl) : (IsV (.int .i64 (i : Int))) v55 wx)
            subst e55
            clear hd
            intro KK hK
            go_simp
            exact hK.out _ _ rfl (Below.refl _ _)
          simp only [Act.put, List.setIfInBounds_toArray, List.set_cons_zero, List.set_cons_succ]
          refine Tab.cons IsV.lasting (fun wx hx hd => ?_) (fun v57 => ?_)
          · skip
            have e56 : v56 = _ := (hd _ (.head _) (by kernel_rfl) : (IsV (.pointer (some ⟨b, o + i, none⟩))) v56 wx)
            subst e56
            clear hd
            intro KK hK
            have hcell0 := KA.out _ hx
            go_simp
            exact hK.out _ _ rfl (Below.refl _ _)
          simp only [Act.put, List.setIfInBounds_toArray, List.set_cons_zero, List.set_cons_succ]
          refine Tab.cons IsV.lasting (fun wx hx hd => ?_) (fun v58 => ?_)
          · skip
            clear hd
            intro KK hK
            go_simp
            exact hK.out _ _ rfl (Below.refl _ _)
          simp only [Act.put, List.setIfInBounds_toArray, List.set_cons_zero, List.set_cons_succ]
          refine Tab.cons IsV.lasting (fun wx hx hd => ?_) (fun v59 => ?_)
          · skip
            clear hd
            intro KK hK
            go_simp
            exact hK.out _ _ rfl (Below.refl _ _)
          simp only [Act.put, List.setIfInBounds_toArray, List.set_cons_zero, List.set_cons_succ]
          refine Tab.cons IsV.lasting (fun wx hx hd => ?_) (fun v60 => ?_)
          · skip
            have e58 : v58 = _ := (hd _ (.tail _ (.head _)) (by kernel_rfl) : (IsV (.slice (some ⟨b2, o2, none⟩) nf c6)) v58 wx)
            subst e58
            have e59 : v59 = _ := (hd _ (.head _) (by kernel_rfl) : (IsV (.int .i64 (i : Int))) v59 wx)
            subst e59
            clear hd
            intro KK hK
            go_simp
            exact hK.out _ _ rfl (Below.refl _ _)
          simp only [Act.put, List.setIfInBounds_toArray, List.set_cons_zero, List.set_cons_succ]
          refine Tab.cons IsV.lasting (fun wx hx hd => ?_) (fun v61 => ?_)
          · skip
            have e60 : v60 = _ := (hd _ (.head _) (by kernel_rfl) : (IsV (.pointer (some ⟨b2, o2 + i, none⟩))) v60 wx)
            subst e60
            clear hd
            intro KK hK
            have hcell0 := KB.out _ hx
            go_simp
            exact hK.out _ _ rfl (Below.refl _ _)
          simp only [Act.put, List.setIfInBounds_toArray, List.set_cons_zero, List.set_cons_succ]
          refine Tab.cons IsV.lasting (fun wx hx hd => ?_) (fun v62 => ?_)
          · skip
            have e57 : v57 = _ := (hd _ (.tail _ (.tail _ (.tail _ (.tail _ (.head _))))) (by kernel_rfl) : (IsV (.slice A1 n1 c1)) v57 wx)
            subst e57
            have e61 : v61 = _ := (hd _ (.head _) (by kernel_rfl) : (IsV (.slice A2 n2 c3)) v61 wx)
            subst e61
            clear hd
            intro KK hK
            go_simp
            refine (samePoly_yes _ 200 200 _ _ _ _ _ _ _ (RA.out.below hx.out) (RB.out.below hx.out)).mono ?_
            rintro e w' ⟨rfl, hb'⟩
            exact hK.out _ _ rfl hb'
          simp only [Act.put, List.setIfInBounds_toArray, List.set_cons_zero, List.set_cons_succ]
          refine Tab.cons IsV.lasting (fun wx hx hd => ?_) (fun v63 => ?_)
          · skip
            have e62 : v62 = _ := (hd _ (.head _) (by kernel_rfl) : (IsV (.bool true)) v62 wx)
            subst e62
            clear hd
            intro KK hK
            go_simp
            exact hK.out _ _ rfl (Below.refl _ _)
          simp only [Act.put, List.setIfInBounds_toArray, List.set_cons_zero, List.set_cons_succ]
          refine Tab.nil fun wx hx hd => ?_
          have e63 : v63 = _ := (hd _ (.head _) : (IsV (.bool false)) v63 wx)
          subst e63
          clear hd
          clear q1
          go_wp2
          go_roundw
          case rel => exact ⟨i + 1, by omega, by go_num, below_step hx.out hS9⟩
          case measure => simp [intOf]; omega
        · go_wp2
          go_ret
          exact ⟨rfl, below_step (hB6.trans (hS9.mono hB6.size)) hS⟩
    · obtain ⟨z, hz⟩ : ∃ z, fitsV Ws ee (V.map List.length) = z := ⟨_, rfl⟩
      have hno1 := forward_nat_no wn AW nW cW Ws AE nE cE ee (h1.below hB) (h2.below hB) GN nN cN _ hN.lens (by rw [HLL.out]; exact hf)
      rw [HLL.out, hz] at hno1
      rw [hz] at hf
      have HF := hide hz
      have HNO1 := hide hno1
      have hz0 : (z != 0) = true := by simpa using hf
      clear hz hno1 hf
      go_wp2_with fail
      refine HNO1.out.mono ?_
      rintro e w3 ⟨rfl, hb3⟩
      replace hB := hB.trans (hb3.mono hB.size)
      clear hc0 hc1 hc2 hb3
      obtain ⟨hc0, hc1, hc2⟩ := HCELLS.out w3 hB
      obtain ⟨W, hWd⟩ : ∃ W : World, W = w3 := ⟨_, rfl⟩
      subst hWd
      have C0 := hide (stays hc0)
      have C1 := hide (stays hc1)
      have C2 := hide (stays hc2)
      clear hc0 hc1 hc2
      go_wp2_with fail
      refine wp_region_tab 7 64 [IsV (.pointer (some ⟨w.heap.size, 0, none⟩)), IsV (.agg #[.slice AW nW cW, .slice AE nE cE]), IsV (.pointer (some ⟨w.heap.size, 2, none⟩)), IsV (.slice A n c), IsI (natI (V.map List.length)), IsV (.int .i64 z), IsV (.int .i64 z)] (From W) (by kernel_rfl) (by kernel_rfl) (by kernel_rfl) rfl From.lasts (From.drew (From.refl W)) ?_
      simp only [List.take_succ_cons, List.drop_succ_cons, List.take_nil, List.drop_nil]
      refine Tab.cons IsV.lasting (fun wx hx hd => ?_) (fun v25 => ?_)
      · skip
        clear hd
        intro KK hK
        go_simp
        exact hK.out _ _ rfl (Below.refl _ _)
      simp only [Act.put, List.setIfInBounds_toArray, List.set_cons_zero, List.set_cons_succ]
      refine Tab.cons IsV.lasting (fun wx hx hd => ?_) (fun v26 => ?_)
      · skip
        have e25 : v25 = _ := (hd _ (.head _) (by kernel_rfl) : (IsV (.pointer (some ⟨w.heap.size, 0, none⟩))) v25 wx)
        subst e25
        clear hd
        intro KK hK
        have hcell0 := C0.out _ hx
        have hcell1 := C1.out _ hx
        go_simp
        exact hK.out _ _ rfl (Below.refl _ _)
      simp only [Act.put, List.setIfInBounds_toArray, List.set_cons_zero, List.set_cons_succ]
      refine Tab.cons IsV.lasting (fun wx hx hd => ?_) (fun v27 => ?_)
      · skip
        clear hd
        intro KK hK
        go_simp
        exact hK.out _ _ rfl (Below.refl _ _)
      simp only [Act.put, List.setIfInBounds_toArray, List.set_cons_zero, List.set_cons_succ]
      refine Tab.cons IsV.lasting (fun wx hx hd => ?_) (fun v28 => ?_)
      · skip
        have e27 : v27 = _ := (hd _ (.head _) (by kernel_rfl) : (IsV (.pointer (some ⟨w.heap.size, 2, none⟩))) v27 wx)
        subst e27
        clear hd
        intro KK hK
        have hcell0 := C2.out _ hx
        go_simp
        exact hK.out _ _ rfl (Below.refl _ _)
      simp only [Act.put, List.setIfInBounds_toArray, List.set_cons_zero, List.set_cons_succ]
      refine Tab.cons IsI.lasting (fun wx hx hd => ?_) (fun v29 => ?_)
      · skip
        have e28 : v28 = _ := (hd _ (.head _) (by kernel_rfl) : (IsV (.slice A n c)) v28 wx)
        subst e28
        clear hd
        intro KK hK
        go_simp
        refine (counts_any _ A n c _ (h3.below (hB.trans (hx.out.mono hB.size))).lens hn).mono ?_
        rintro e w' ⟨A', n', c', rfl, h', hb'⟩
        exact hK.out _ _ ⟨A', n', c', rfl, h'⟩ hb'
      simp only [Act.put, List.setIfInBounds_toArray, List.set_cons_zero, List.set_cons_succ]
      refine Tab.cons IsV.lasting (fun wx hx hd => ?_) (fun v30 => ?_)
      · skip
        have e26 : v26 = _ := (hd _ (.tail _ (.tail _ (.tail _ (.head _)))) (by kernel_rfl) : (IsV (.agg #[.slice AW nW cW, .slice AE nE cE])) v26 wx)
        subst e26
        obtain ⟨A29, n29, c29, rfl, h29⟩ := (hd _ (.head _) (by kernel_rfl) : (IsI (natI (V.map List.length))) v29 wx)
        clear hd
        intro KK hK
        go_simp
        have hct := fits_any _ AW nW cW Ws AE nE cE ee (h1.below (hB.trans (hx.out.mono hB.size))) (h2.below (hB.trans (hx.out.mono hB.size))) _ _ _ _ h29
        rw [HF.out] at hct
        refine hct.mono ?_
        rintro e w' ⟨rfl, hb'⟩
        exact hK.out _ _ rfl hb'
      simp only [Act.put, List.setIfInBounds_toArray, List.set_cons_zero, List.set_cons_succ]
      refine Tab.cons IsV.lasting (fun wx hx hd => ?_) (fun v6 => ?_)
      · skip
        have e30 : v30 = _ := (hd _ (.head _) (by kernel_rfl) : (IsV (.int .i64 z)) v30 wx)
        subst e30
        clear hd
        intro KK hK
        go_simp
        exact hK.out _ _ rfl (Below.refl _ _)
      simp only [Act.put, List.setIfInBounds_toArray, List.set_cons_zero, List.set_cons_succ]
      refine Tab.nil fun wx hx hd => ?_
      have e6 : v6 = _ := (hd _ (.head _) : (IsV (.int .i64 z)) v6 wx)
      subst e6
      clear hd
      replace hx := hx.out
      have hB9 := hB.trans (hx.mono hB.size)
      clear hB
      obtain ⟨hc0, hc1, hc2⟩ := HCELLS.out _ hB9
      skip
      go_wp2
      go_ret
      exact ⟨rfl, below_step hB9 hS⟩
end Go.Proofs.Ytjadgomakoaibaa
