/- The walk of the law SemiringMeets. -/
import Derived.Test.YtjadgomakoaibaaMeetM
import Derived.Test.YtjadgomakoaibaaSumNat
import Derived.Test.YtjadgomakoaibaaRefMul
import Derived.Test.YtjadgomakoaibaaRefAdd
import Derived.Test.YtjadgomakoaibaaFew
import Derived.Test.YtjadgomakoaibaaBoxG
import Derived.Test.YtjadgomakoaibaaNatAt
namespace Go.Proofs.Ytjadgomakoaibaa
open Go.RowKit
theorem addTo_le {f : Nat → Nat} {k n : Nat} (h : k ≤ n) : addTo f k ≤ addTo f n := by
  induction n with
  | zero => obtain rfl : k = 0 := by omega
            exact Nat.le_refl _
  | succ n ih =>
    by_cases hk : k = n + 1
    · subst hk; exact Nat.le_refl _
    · have := ih (by omega)
      simp only [addTo]
      omega
theorem cap_of_rd {w : World} {A : Option Addr} {n c N : Nat} (h : Rd w A n c (limbs N)) (hn : n ≤ 200) : N < cap200 := by
  have h1 := val_lt_len h
  rw [val_limbs] at h1
  exact Nat.lt_of_lt_of_le h1 (Nat.pow_le_pow_right (by omega) hn)

set_option maxHeartbeats 8000000 in
set_option maxRecDepth 100000 in
theorem law_SemiringMeets (w : World) (AW : Option Addr) (nW cW : Nat) (Ws : List Int) (AE : Option Addr) (nE cE : Nat) (ee : List (List EdgeT)) (hW : RdI w AW nW cW Ws) (hE : RdEE w AE nE cE ee)
    (A : Option Addr) (n c : Nat) (V : List (List Int)) (hV : RdR intC 0 w 1 A n c V) (hn : n ≤ 35184372088832) :
    Calls Try.prog 6 #[.agg #[.slice AW nW cW, .slice AE nE cE, .slice A n c]] w (Makes (.bool true) w) := by
  obtain ⟨W0, hW0, hS, hz, hc0, hc1, hc2⟩ := boxG w AW nW cW AE nE cE A n c
  have h1 := hW.below hS
  have h2 := hE.below hS
  have h3 := hV.below hS
  have HW := hide hW0
  have HXB := hide (natOf_at hV.int_le)
  have HLL := hide (natOf_lens V)
  have hcells : ∀ w', Below W0.heap.size W0 w' → w'.cell? ⟨w.heap.size, 0, none⟩ = some (.slice AW nW cW) ∧ w'.cell? ⟨w.heap.size, 1, none⟩ = some (.slice AE nE cE) ∧ w'.cell? ⟨w.heap.size, 2, none⟩ = some (.slice A n c) := fun w' hb =>
    ⟨(hb.cell (p := ⟨w.heap.size, 0, none⟩) hz).trans hc0, (hb.cell (p := ⟨w.heap.size, 1, none⟩) hz).trans hc1, (hb.cell (p := ⟨w.heap.size, 2, none⟩) hz).trans hc2⟩
  have HCELLS := hide hcells
  have HLENW := hide hW.len
  have HLENE := hide hE.len
  have HLENV := hide hV.len
  clear hW0 hc0 hc1 hc2 hz hW hE hV hcells
  go_enter Try.func6, Try.ntmps6
  go_upto_region 1 with (fail)
  rw [← HW.out]
  go_wp2_with fail
  refine (alive_any _).mono ?_
  rintro e w1 ⟨rfl, hb1⟩
  obtain ⟨hc0, hc1, hc2⟩ := HCELLS.out w1 hb1
  go_wp2_with fail
  refine (few_any w1 AW nW cW Ws AE nE cE ee (h1.below hb1) (h2.below hb1) A n c _ (h3.below hb1).lens hn 1000 (by omega)).mono ?_
  rintro e w2 ⟨q, rfl, hb2⟩
  have hB := hb1.trans (hb2.mono hb1.size)
  clear hc0 hc1 hc2 hb1 hb2
  cases q with
  | false =>
    go_wp2
    go_ret
    exact ⟨rfl, below_step hB hS⟩
  | true =>
    obtain ⟨hc0, hc1, hc2⟩ := HCELLS.out w2 hB
    obtain ⟨W, hWd⟩ : ∃ W : World, W = w2 := ⟨_, rfl⟩
    subst hWd
    have C0 := hide (stays hc0)
    have C1 := hide (stays hc1)
    have C2 := hide (stays hc2)
    clear hc0 hc1 hc2
    by_cases hf : fitsV Ws ee (V.map List.length) = 0
    · have HF := hide hf
      obtain ⟨hshape, hlens⟩ := fits_zero hf
      have hLay := layered_of_shape hshape
      have hl1 := hLay.len
      have hl2 := hLay.few
      have hlenV : V.length = ee.length := by have := congrArg List.length hlens; simpa using this
      have hsz : nW = nE + 1 ∧ n = nE ∧ nE ≤ 64 := by have := HLENW.out; have := HLENE.out; have := HLENV.out; omega
      have HSZ := hide hsz
      have HLay := hide hLay
      have hLENS0 : ∀ i, i < n → (V.getD i []).length = (ee.getD i []).length := fun i hi => by
        have h8 := congrArg (fun l : List Nat => l.getD i 0) hlens
        have := HLENV.out
        simpa [List.getD_eq_getElem?_getD, show i < V.length by omega, show i < ee.length by omega] using h8
      have HLENS := hide hLENS0
      have hrow : ∀ i, i < n → (V.getD i []).length ≤ 8796093022208 := fun i hi => by
        have h8 := hLENS0 i hi
        have h9 := hLay.edges i (by have := HLENV.out; omega)
        omega
      have HROW := hide hrow
      have HLV := hide hlenV
      clear hf hshape hlens hLay hl1 hl2 hlenV hsz hLENS0 hrow
      go_wp2_with fail
      refine wp_region_tab 7 223 [IsV (.pointer (some ⟨w.heap.size, 0, none⟩)), IsV (.agg #[.slice AW nW cW, .slice AE nE cE]), IsV (.pointer (some ⟨w.heap.size, 2, none⟩)), IsV (.slice A n c), IsI (natI (V.map List.length)), IsV (.int .i64 0), IsV (.bool false)] (From W) (by kernel_rfl) (by kernel_rfl) (by kernel_rfl) rfl From.lasts (From.drew (From.refl W)) ?_
      simp only [List.take_succ_cons, List.drop_succ_cons, List.take_nil, List.drop_nil]
      refine Tab.cons IsV.lasting (fun wx hx hd => ?_) (fun v21 => ?_)
      · skip
        clear hd
        intro KK hK
        go_simp
        exact hK.out _ _ rfl (Below.refl _ _)
      simp only [Act.put, List.setIfInBounds_toArray, List.set_cons_zero, List.set_cons_succ]
      refine Tab.cons IsV.lasting (fun wx hx hd => ?_) (fun v22 => ?_)
      · skip
        have e21 : v21 = _ := (hd _ (.head _) (by kernel_rfl) : (IsV (.pointer (some ⟨w.heap.size, 0, none⟩))) v21 wx)
        subst e21
        clear hd
        intro KK hK
        have hcell0 := C0.out _ hx
        have hcell1 := C1.out _ hx
        go_simp
        exact hK.out _ _ rfl (Below.refl _ _)
      simp only [Act.put, List.setIfInBounds_toArray, List.set_cons_zero, List.set_cons_succ]
      refine Tab.cons IsV.lasting (fun wx hx hd => ?_) (fun v23 => ?_)
      · skip
        clear hd
        intro KK hK
        go_simp
        exact hK.out _ _ rfl (Below.refl _ _)
      simp only [Act.put, List.setIfInBounds_toArray, List.set_cons_zero, List.set_cons_succ]
      refine Tab.cons IsV.lasting (fun wx hx hd => ?_) (fun v24 => ?_)
      · skip
        have e23 : v23 = _ := (hd _ (.head _) (by kernel_rfl) : (IsV (.pointer (some ⟨w.heap.size, 2, none⟩))) v23 wx)
        subst e23
        clear hd
        intro KK hK
        have hcell0 := C2.out _ hx
        go_simp
        exact hK.out _ _ rfl (Below.refl _ _)
      simp only [Act.put, List.setIfInBounds_toArray, List.set_cons_zero, List.set_cons_succ]
      refine Tab.cons IsI.lasting (fun wx hx hd => ?_) (fun v25 => ?_)
      · skip
        have e24 : v24 = _ := (hd _ (.head _) (by kernel_rfl) : (IsV (.slice A n c)) v24 wx)
        subst e24
        clear hd
        intro KK hK
        go_simp
        refine (counts_any _ A n c _ (h3.below (hB.trans (hx.out.mono hB.size))).lens hn).mono ?_
        rintro e w' ⟨A', n', c', rfl, h', hb'⟩
        exact hK.out _ _ ⟨A', n', c', rfl, h'⟩ hb'
      simp only [Act.put, List.setIfInBounds_toArray, List.set_cons_zero, List.set_cons_succ]
      refine Tab.cons IsV.lasting (fun wx hx hd => ?_) (fun v26 => ?_)
      · skip
        have e22 : v22 = _ := (hd _ (.tail _ (.tail _ (.tail _ (.head _)))) (by kernel_rfl) : (IsV (.agg #[.slice AW nW cW, .slice AE nE cE])) v22 wx)
        subst e22
        obtain ⟨A25, n25, c25, rfl, h25⟩ := (hd _ (.head _) (by kernel_rfl) : (IsI (natI (V.map List.length))) v25 wx)
        clear hd
        intro KK hK
        go_simp
        have hct := fits_any _ AW nW cW Ws AE nE cE ee (h1.below (hB.trans (hx.out.mono hB.size))) (h2.below (hB.trans (hx.out.mono hB.size))) _ _ _ _ h25
        rw [HF.out] at hct
        refine hct.mono ?_
        rintro e w' ⟨rfl, hb'⟩
        exact hK.out _ _ rfl hb'
      simp only [Act.put, List.setIfInBounds_toArray, List.set_cons_zero, List.set_cons_succ]
      refine Tab.cons IsV.lasting (fun wx hx hd => ?_) (fun v27 => ?_)
      · skip
        have e26 : v26 = _ := (hd _ (.head _) (by kernel_rfl) : (IsV (.int .i64 0)) v26 wx)
        subst e26
        clear hd
        intro KK hK
        go_simp
        exact hK.out _ _ rfl (Below.refl _ _)
      simp only [Act.put, List.setIfInBounds_toArray, List.set_cons_zero, List.set_cons_succ]
      refine Tab.nil fun wx hx hd => ?_
      have e27 : v27 = _ := (hd _ (.head _) : (IsV (.bool false)) v27 wx)
      subst e27
      clear hd
      replace hx := hx.out
      have hB9 := hB.trans (hx.mono hB.size)
      clear hB
      obtain ⟨hc0, hc1, hc2⟩ := HCELLS.out _ hB9
      go_wp2_with fail
      refine (nats_any _ A n c V (h3.below hB9) (by have := HSZ.out; omega) HROW.out).mono ?_
      rintro e wn ⟨GN, nN, cN, vsN, rfl, hGN, hbn⟩
      have hB := hB9.trans (hbn.mono hB9.size)
      have hN := hGN.rd
      clear hc0 hc1 hc2 hGN hbn hB9 C0 C1 C2 hx
      obtain ⟨hc0, hc1, hc2⟩ := HCELLS.out wn hB
      obtain ⟨VN, hVN⟩ : ∃ VN, VN = V.map fun l => l.map natOf := ⟨_, rfl⟩
      have HVNL : Hid (VN.length = ee.length) := by rw [Hid, hVN, List.length_map]; exact HLV.out
      have HVNR : Hid (∀ i, i < n → (VN.getD i []).length = (ee.getD i []).length) := fun i hi => by
        rw [← HLENS.out i hi, hVN]
        simp only [List.getD_eq_getElem?_getD, List.getElem?_map]
        cases V[i]? <;> simp
      rw [← hVN] at hN HXB HLL
      have hF9 : fitsV Ws ee (VN.map List.length) = 0 := by rw [HLL.out]; exact HF.out
      have HF9 := hide hF9
      clear hVN hF9
      have HMEET := hide (meet (V := VN) HLay.out HVNL.out)
      have HHC := hide (And.intro hc0 hc1)
      go_upto_region 9 with (fail)
      obtain ⟨Ws1, hWs1⟩ : ∃ Ws1, Ws1 = wn.alloc (.cells #[] 39) := ⟨_, rfl⟩
      have hbs : Below wn.heap.size wn Ws1 := by rw [hWs1]; exact below_alloc wn _
      first
        | rw [← hWs1]
        | skip
      replace hB := hB.trans (hbs.mono hB.size)
      replace hN := hN.below hbs
      clear hWs1 hbs hc0 hc1 hc2
      obtain ⟨hc0, hc1, hc2⟩ := HCELLS.out _ hB
      go_wp2_with fail
      refine (forward_nat _ AW nW cW Ws AE nE cE ee (h1.below hB) (h2.below hB) GN nN cN VN hN HF9.out HXB.out).mono ?_
      rintro e w3 ⟨Gf, nf, cf, vsf, rfl, hGf, hb3⟩
      replace hB := hB.trans (hb3.mono hB.size)
      replace hN := hN.below hb3
      have hrF := hGf.rd
      clear hc0 hc1 hc2 hGf hb3
      obtain ⟨hc0, hc1, hc2⟩ := HCELLS.out _ hB
      go_wp2_with fail
      refine (backward_nat _ AW nW cW Ws AE nE cE ee (h1.below hB) (h2.below hB) GN nN cN VN hN HF9.out HXB.out).mono ?_
      rintro e w4 ⟨Gb, nb, cb, vsb, rfl, hGb, hb4⟩
      replace hB := hB.trans (hb4.mono hB.size)
      replace hN := hN.below hb4
      replace hrF := hrF.below hb4
      have hrK := hGb.rd
      clear hc0 hc1 hc2 hGb hb4
      obtain ⟨hc0, hc1, hc2⟩ := HCELLS.out _ hB
      go_wp2_with fail
      refine (through_nat _ AW nW cW Ws AE nE cE ee (h1.below hB) (h2.below hB) GN nN cN VN hN HF9.out HXB.out).mono ?_
      rintro e w6 ⟨Gh, nh, ch, vsh, rfl, hGh, hb6⟩
      have hB6 := hB.trans (hb6.mono hB.size)
      replace hrF : RdR (natC 200) 0 w6 1 Gf nf cf (FF Ws ee VN) := hrF.below hb6
      replace hrK : RdR (natC 200) 0 w6 1 Gb nb cb (FB Ws ee VN) := hrK.below hb6
      have hrH := hGh.rd
      have h1' := h1.below hB6
      have h2' := h2.below hB6
      clear hc0 hc1 hc2 hGh hb6 hN hB h1 h2 h3
      have f0 : RowsFit Ws (initR Ws (0 : Nat)) := RowsFit.init _ fun i hi => (HLay.out.wide i hi).1
      have HFF := hide (show RowsFit Ws (FF Ws ee VN) from RowsFit.fwdAll _ _ _ _ (f0.set2 _ _ _))
      have HFB := hide (show RowsFit Ws (FB Ws ee VN) from RowsFit.bwdAll _ _ (f0.set2 _ _ _))
      clear f0
      obtain rfl : nf = nW := by have h8 := hrF.len; have h9 := HFF.out.len; have := HLENW.out; omega
      obtain rfl : nf = nb := by have h8 := hrK.len; have h9 := HFB.out.len; have := HLENW.out; omega
      obtain rfl : nE = nh := by have h8 := hrH.len; unfold thrAll at h8; rw [List.length_map, List.length_range, HLENE.out] at h8; exact h8
      obtain ⟨hc0, hc1, hc2⟩ := HCELLS.out _ hB6
      have HC6 := hide (And.intro hc0 hc1)
      have HZ6 := hide (World.block_lt_of_cell? w6 _ hc0)
      have hnf := HSZ.out.1
      have hE64 := HSZ.out.2.2
      have hEN := HLENE.out
      have hWN := HLENW.out
      obtain ⟨bF, oF, An, mn, en, rfl, hbFn, hcFn, hvFn⟩ := hrF.at (show nE < nf by omega)
      obtain ⟨bK, oK, Ak, mk, ek, rfl, hbK0, hcK0, hvK0⟩ := hrK.at (show 0 < nf by omega)
      rw [Nat.add_zero] at hcK0
      have hmn : 0 < mn := by
        have h8 := HFF.out.row nE (by omega)
        have h9 := (HLay.out.wide nE (by omega)).1
        have := hvFn.len
        omega
      have hmk : 0 < mk := by
        have h8 := HFB.out.row 0 (by omega)
        have h9 := (HLay.out.wide 0 (by omega)).1
        have := hvK0.len
        omega
      obtain ⟨b0, o0, vS, rfl, hb0, hcS, AS, nS, cS, rfl, hRS, hKS⟩ := hvFn.at1 hmn
      obtain ⟨b1, o1, vY, rfl, hb1, hcY, AY, nY, cY, rfl, hRY, hKY⟩ := hvK0.at1 hmk
      rw [Nat.add_zero] at hcS hcY
      have hTE : (FF Ws ee VN).getD nE [] = (FF Ws ee VN).getD ee.length [] := by rw [hEN]
      rw [hTE] at hRS
      have hRS2 : Rd w6 AS nS cS (limbs (at2 0 (FF Ws ee VN) ee.length 0)) := hRS
      have hRY2 : Rd w6 AY nY cY (limbs (at2 0 (FB Ws ee VN) 0 0)) := hRY
      have HTU : Hid (at2 0 (FF Ws ee VN) ee.length 0 = at2 0 (FB Ws ee VN) 0 0) := HMEET.out.2.1.symm
      have HCT := hide (cap_of_rd hRS2 hKS)
      have HM1 := hide HMEET.out.1
      have HM3 := hide HMEET.out.2.2
      clear HMEET hRS hRY hTE
      generalize ht : at2 0 (FF Ws ee VN) ee.length 0 = t at *
      have HTD := hide ht
      clear ht
      generalize at2 0 (FB Ws ee VN) 0 0 = u at *
      have HFN := hide (And.intro hcFn hcS)
      have HRSN := hide hRS2
      have K0 := hide (stays hcFn)
      have K1 := hide (stays hcK0)
      have KS := hide (stays hcS)
      have KY := hide (stays hcY)
      have RS := hide hRS2
      have RY := hide hRY2
      have q1 : (nE : Int) < (nf : Int) := by omega
      have q2 : (0 : Int) < (nf : Int) := by omega
      have q3 : (0 : Int) < (mn : Int) := by omega
      have q4 : (0 : Int) < (mk : Int) := by omega
      have hz1 : ((mn : Int) == 0) = false := by simp; omega
      have hz2 : ((mk : Int) == 0) = false := by simp; omega
      have r2 : 0 < nf := by omega
      have r3 : 0 < mn := hmn
      have r4 : 0 < mk := hmk
      have HNF := hide hnf
      clear hcFn hcK0 hcS hcY hRS2 hRY2 hnf hEN hWN hvFn hvK0 hmn hmk
      go_wp2_with fail
      clear hc0 hc1 hc2
      refine wp_region_tab 28 223 [IsV (.slice (some ⟨bF, oF, none⟩) nf cf), IsV (.int .i64 (nE : Int)), IsV (.pointer (some ⟨bF, oF + nE, none⟩)), IsV (.slice (some ⟨b0, o0, none⟩) mn en), IsV (.int .i64 (mn : Int)), IsV (.bool false), IsV (.bool false), IsV (.slice (some ⟨bK, oK, none⟩) nf cb), IsV (.pointer (some ⟨bK, oK, none⟩)), IsV (.slice (some ⟨b1, o1, none⟩) mk ek), IsV (.int .i64 (mk : Int)), IsV (.bool false), IsV (.bool false), IsV (.bool false), IsV (.slice (some ⟨bF, oF, none⟩) nf cf), IsV (.int .i64 (nE : Int)), IsV (.pointer (some ⟨bF, oF + nE, none⟩)), IsV (.slice (some ⟨b0, o0, none⟩) mn en), IsV (.pointer (some ⟨b0, o0, none⟩)), IsV (.slice AS nS cS), IsV (.slice (some ⟨bK, oK, none⟩) nf cb), IsV (.pointer (some ⟨bK, oK, none⟩)), IsV (.slice (some ⟨b1, o1, none⟩) mk ek), IsV (.pointer (some ⟨b1, o1, none⟩)), IsV (.slice AY nY cY), IsV (.bool true), IsV (.bool false), IsV (.bool false)] (From w6) (by kernel_rfl) (by kernel_rfl) (by kernel_rfl) rfl From.lasts (From.drew (From.refl w6)) ?_
      simp only [List.take_succ_cons, List.drop_succ_cons, List.take_nil, List.drop_nil]
      refine Tab.cons IsV.lasting (fun wx hx hd => ?_) (fun v95 => ?_)
      · skip
        clear hd
        intro KK hK
        go_simp
        exact hK.out _ _ rfl (Below.refl _ _)
      simp only [Act.put, List.setIfInBounds_toArray, List.set_cons_zero, List.set_cons_succ]
      refine Tab.cons IsV.lasting (fun wx hx hd => ?_) (fun v96 => ?_)
      · skip
        clear hd
        intro KK hK
        go_simp
        exact hK.out _ _ rfl (Below.refl _ _)
      simp only [Act.put, List.setIfInBounds_toArray, List.set_cons_zero, List.set_cons_succ]
      refine Tab.cons IsV.lasting (fun wx hx hd => ?_) (fun v97 => ?_)
      · skip
        have e95 : v95 = _ := (hd _ (.tail _ (.head _)) (by kernel_rfl) : (IsV (.slice (some ⟨bF, oF, none⟩) nf cf)) v95 wx)
        subst e95
        have e96 : v96 = _ := (hd _ (.head _) (by kernel_rfl) : (IsV (.int .i64 (nE : Int))) v96 wx)
        subst e96
        clear hd
        intro KK hK
        go_simp
        exact hK.out _ _ rfl (Below.refl _ _)
      simp only [Act.put, List.setIfInBounds_toArray, List.set_cons_zero, List.set_cons_succ]
      refine Tab.cons IsV.lasting (fun wx hx hd => ?_) (fun v98 => ?_)
      · skip
        have e97 : v97 = _ := (hd _ (.head _) (by kernel_rfl) : (IsV (.pointer (some ⟨bF, oF + nE, none⟩))) v97 wx)
        subst e97
        clear hd
        intro KK hK
        have hcell0 := K0.out _ hx
        go_simp
        exact hK.out _ _ rfl (Below.refl _ _)
      simp only [Act.put, List.setIfInBounds_toArray, List.set_cons_zero, List.set_cons_succ]
      refine Tab.cons IsV.lasting (fun wx hx hd => ?_) (fun v99 => ?_)
      · skip
        have e98 : v98 = _ := (hd _ (.head _) (by kernel_rfl) : (IsV (.slice (some ⟨b0, o0, none⟩) mn en)) v98 wx)
        subst e98
        clear hd
        intro KK hK
        go_simp
        exact hK.out _ _ rfl (Below.refl _ _)
      simp only [Act.put, List.setIfInBounds_toArray, List.set_cons_zero, List.set_cons_succ]
      refine Tab.cons IsV.lasting (fun wx hx hd => ?_) (fun v100 => ?_)
      · skip
        have e99 : v99 = _ := (hd _ (.head _) (by kernel_rfl) : (IsV (.int .i64 (mn : Int))) v99 wx)
        subst e99
        clear hd
        intro KK hK
        go_simp
        exact hK.out _ _ rfl (Below.refl _ _)
      simp only [Act.put, List.setIfInBounds_toArray, List.set_cons_zero, List.set_cons_succ]
      refine Tab.cons IsV.lasting (fun wx hx hd => ?_) (fun v101 => ?_)
      · skip
        have e100 : v100 = _ := (hd _ (.head _) (by kernel_rfl) : (IsV (.bool false)) v100 wx)
        subst e100
        clear hd
        intro KK hK
        go_simp
        exact hK.out _ _ rfl (Below.refl _ _)
      simp only [Act.put, List.setIfInBounds_toArray, List.set_cons_zero, List.set_cons_succ]
      refine Tab.cons IsV.lasting (fun wx hx hd => ?_) (fun v102 => ?_)
      · skip
        have e101 : v101 = _ := (hd _ (.head _) (by kernel_rfl) : (IsV (.bool false)) v101 wx)
        subst e101
        clear hd
        intro KK hK
        go_simp
        exact hK.out _ _ rfl (Below.refl _ _)
      simp only [Act.put, List.setIfInBounds_toArray, List.set_cons_zero, List.set_cons_succ]
      refine Tab.cons IsV.lasting (fun wx hx hd => ?_) (fun v103 => ?_)
      · skip
        have e102 : v102 = _ := (hd _ (.head _) (by kernel_rfl) : (IsV (.slice (some ⟨bK, oK, none⟩) nf cb)) v102 wx)
        subst e102
        have e101 : v101 = _ := (hd _ (.tail _ (.head _)) (by kernel_rfl) : (IsV (.bool false)) v101 wx)
        subst e101
        clear hd
        intro KK hK
        go_simp
        exact hK.out _ _ rfl (Below.refl _ _)
      simp only [Act.put, List.setIfInBounds_toArray, List.set_cons_zero, List.set_cons_succ]
      refine Tab.cons IsV.lasting (fun wx hx hd => ?_) (fun v104 => ?_)
      · skip
        have e103 : v103 = _ := (hd _ (.head _) (by kernel_rfl) : (IsV (.pointer (some ⟨bK, oK, none⟩))) v103 wx)
        subst e103
        have e101 : v101 = _ := (hd _ (.tail _ (.tail _ (.head _))) (by kernel_rfl) : (IsV (.bool false)) v101 wx)
        subst e101
        clear hd
        intro KK hK
        have hcell0 := K1.out _ hx
        go_simp
        exact hK.out _ _ rfl (Below.refl _ _)
      simp only [Act.put, List.setIfInBounds_toArray, List.set_cons_zero, List.set_cons_succ]
      refine Tab.cons IsV.lasting (fun wx hx hd => ?_) (fun v105 => ?_)
      · skip
        have e104 : v104 = _ := (hd _ (.head _) (by kernel_rfl) : (IsV (.slice (some ⟨b1, o1, none⟩) mk ek)) v104 wx)
        subst e104
        have e101 : v101 = _ := (hd _ (.tail _ (.tail _ (.tail _ (.head _)))) (by kernel_rfl) : (IsV (.bool false)) v101 wx)
        subst e101
        clear hd
        intro KK hK
        go_simp
        exact hK.out _ _ rfl (Below.refl _ _)
      simp only [Act.put, List.setIfInBounds_toArray, List.set_cons_zero, List.set_cons_succ]
      refine Tab.cons IsV.lasting (fun wx hx hd => ?_) (fun v106 => ?_)
      · skip
        have e105 : v105 = _ := (hd _ (.head _) (by kernel_rfl) : (IsV (.int .i64 (mk : Int))) v105 wx)
        subst e105
        have e101 : v101 = _ := (hd _ (.tail _ (.tail _ (.tail _ (.tail _ (.head _))))) (by kernel_rfl) : (IsV (.bool false)) v101 wx)
        subst e101
        clear hd
        intro KK hK
        go_simp
        exact hK.out _ _ rfl (Below.refl _ _)
      simp only [Act.put, List.setIfInBounds_toArray, List.set_cons_zero, List.set_cons_succ]
      refine Tab.cons IsV.lasting (fun wx hx hd => ?_) (fun v107 => ?_)
      · skip
        have e101 : v101 = _ := (hd _ (.tail _ (.tail _ (.tail _ (.tail _ (.tail _ (.head _)))))) (by kernel_rfl) : (IsV (.bool false)) v101 wx)
        subst e101
        have e106 : v106 = _ := (hd _ (.head _) (by kernel_rfl) : (IsV (.bool false)) v106 wx)
        subst e106
        clear hd
        intro KK hK
        go_simp
        exact hK.out _ _ rfl (Below.refl _ _)
      simp only [Act.put, List.setIfInBounds_toArray, List.set_cons_zero, List.set_cons_succ]
      refine Tab.cons IsV.lasting (fun wx hx hd => ?_) (fun v108 => ?_)
      · skip
        have e107 : v107 = _ := (hd _ (.head _) (by kernel_rfl) : (IsV (.bool false)) v107 wx)
        subst e107
        clear hd
        intro KK hK
        go_simp
        exact hK.out _ _ rfl (Below.refl _ _)
      simp only [Act.put, List.setIfInBounds_toArray, List.set_cons_zero, List.set_cons_succ]
      refine Tab.cons IsV.lasting (fun wx hx hd => ?_) (fun v109 => ?_)
      · skip
        have e108 : v108 = _ := (hd _ (.head _) (by kernel_rfl) : (IsV (.bool false)) v108 wx)
        subst e108
        clear hd
        intro KK hK
        go_simp
        exact hK.out _ _ rfl (Below.refl _ _)
      simp only [Act.put, List.setIfInBounds_toArray, List.set_cons_zero, List.set_cons_succ]
      refine Tab.cons IsV.lasting (fun wx hx hd => ?_) (fun v110 => ?_)
      · skip
        have e108 : v108 = _ := (hd _ (.tail _ (.head _)) (by kernel_rfl) : (IsV (.bool false)) v108 wx)
        subst e108
        clear hd
        intro KK hK
        go_simp
        exact hK.out _ _ rfl (Below.refl _ _)
      simp only [Act.put, List.setIfInBounds_toArray, List.set_cons_zero, List.set_cons_succ]
      refine Tab.cons IsV.lasting (fun wx hx hd => ?_) (fun v111 => ?_)
      · skip
        have e109 : v109 = _ := (hd _ (.tail _ (.head _)) (by kernel_rfl) : (IsV (.slice (some ⟨bF, oF, none⟩) nf cf)) v109 wx)
        subst e109
        have e110 : v110 = _ := (hd _ (.head _) (by kernel_rfl) : (IsV (.int .i64 (nE : Int))) v110 wx)
        subst e110
        have e108 : v108 = _ := (hd _ (.tail _ (.tail _ (.head _))) (by kernel_rfl) : (IsV (.bool false)) v108 wx)
        subst e108
        clear hd
        intro KK hK
        go_simp
        exact hK.out _ _ rfl (Below.refl _ _)
      simp only [Act.put, List.setIfInBounds_toArray, List.set_cons_zero, List.set_cons_succ]
      refine Tab.cons IsV.lasting (fun wx hx hd => ?_) (fun v112 => ?_)
      · skip
        have e111 : v111 = _ := (hd _ (.head _) (by kernel_rfl) : (IsV (.pointer (some ⟨bF, oF + nE, none⟩))) v111 wx)
        subst e111
        have e108 : v108 = _ := (hd _ (.tail _ (.tail _ (.tail _ (.head _)))) (by kernel_rfl) : (IsV (.bool false)) v108 wx)
        subst e108
        clear hd
        intro KK hK
        have hcell0 := K0.out _ hx
        go_simp
        exact hK.out _ _ rfl (Below.refl _ _)
      simp only [Act.put, List.setIfInBounds_toArray, List.set_cons_zero, List.set_cons_succ]
      refine Tab.cons IsV.lasting (fun wx hx hd => ?_) (fun v113 => ?_)
      · skip
        have e112 : v112 = _ := (hd _ (.head _) (by kernel_rfl) : (IsV (.slice (some ⟨b0, o0, none⟩) mn en)) v112 wx)
        subst e112
        have e108 : v108 = _ := (hd _ (.tail _ (.tail _ (.tail _ (.tail _ (.head _))))) (by kernel_rfl) : (IsV (.bool false)) v108 wx)
        subst e108
        clear hd
        intro KK hK
        go_simp
        exact hK.out _ _ rfl (Below.refl _ _)
      simp only [Act.put, List.setIfInBounds_toArray, List.set_cons_zero, List.set_cons_succ]
      refine Tab.cons IsV.lasting (fun wx hx hd => ?_) (fun v114 => ?_)
      · skip
        have e113 : v113 = _ := (hd _ (.head _) (by kernel_rfl) : (IsV (.pointer (some ⟨b0, o0, none⟩))) v113 wx)
        subst e113
        have e108 : v108 = _ := (hd _ (.tail _ (.tail _ (.tail _ (.tail _ (.tail _ (.head _)))))) (by kernel_rfl) : (IsV (.bool false)) v108 wx)
        subst e108
        clear hd
        intro KK hK
        have hcell0 := KS.out _ hx
        go_simp
        exact hK.out _ _ rfl (Below.refl _ _)
      simp only [Act.put, List.setIfInBounds_toArray, List.set_cons_zero, List.set_cons_succ]
      refine Tab.cons IsV.lasting (fun wx hx hd => ?_) (fun v115 => ?_)
      · skip
        have e108 : v108 = _ := (hd _ (.tail _ (.tail _ (.tail _ (.tail _ (.tail _ (.tail _ (.head _))))))) (by kernel_rfl) : (IsV (.bool false)) v108 wx)
        subst e108
        clear hd
        intro KK hK
        go_simp
        exact hK.out _ _ rfl (Below.refl _ _)
      simp only [Act.put, List.setIfInBounds_toArray, List.set_cons_zero, List.set_cons_succ]
      refine Tab.cons IsV.lasting (fun wx hx hd => ?_) (fun v116 => ?_)
      · skip
        have e115 : v115 = _ := (hd _ (.head _) (by kernel_rfl) : (IsV (.slice (some ⟨bK, oK, none⟩) nf cb)) v115 wx)
        subst e115
        have e108 : v108 = _ := (hd _ (.tail _ (.tail _ (.tail _ (.tail _ (.tail _ (.tail _ (.tail _ (.head _)))))))) (by kernel_rfl) : (IsV (.bool false)) v108 wx)
        subst e108
        clear hd
        intro KK hK
        go_simp
        exact hK.out _ _ rfl (Below.refl _ _)
      simp only [Act.put, List.setIfInBounds_toArray, List.set_cons_zero, List.set_cons_succ]
      refine Tab.cons IsV.lasting (fun wx hx hd => ?_) (fun v117 => ?_)
      · skip
        have e116 : v116 = _ := (hd _ (.head _) (by kernel_rfl) : (IsV (.pointer (some ⟨bK, oK, none⟩))) v116 wx)
        subst e116
        have e108 : v108 = _ := (hd _ (.tail _ (.tail _ (.tail _ (.tail _ (.tail _ (.tail _ (.tail _ (.tail _ (.head _))))))))) (by kernel_rfl) : (IsV (.bool false)) v108 wx)
        subst e108
        clear hd
        intro KK hK
        have hcell0 := K1.out _ hx
        go_simp
        exact hK.out _ _ rfl (Below.refl _ _)
      simp only [Act.put, List.setIfInBounds_toArray, List.set_cons_zero, List.set_cons_succ]
      refine Tab.cons IsV.lasting (fun wx hx hd => ?_) (fun v118 => ?_)
      · skip
        have e117 : v117 = _ := (hd _ (.head _) (by kernel_rfl) : (IsV (.slice (some ⟨b1, o1, none⟩) mk ek)) v117 wx)
        subst e117
        have e108 : v108 = _ := (hd _ (.tail _ (.tail _ (.tail _ (.tail _ (.tail _ (.tail _ (.tail _ (.tail _ (.tail _ (.head _)))))))))) (by kernel_rfl) : (IsV (.bool false)) v108 wx)
        subst e108
        clear hd
        intro KK hK
        go_simp
        exact hK.out _ _ rfl (Below.refl _ _)
      simp only [Act.put, List.setIfInBounds_toArray, List.set_cons_zero, List.set_cons_succ]
      refine Tab.cons IsV.lasting (fun wx hx hd => ?_) (fun v119 => ?_)
      · skip
        have e118 : v118 = _ := (hd _ (.head _) (by kernel_rfl) : (IsV (.pointer (some ⟨b1, o1, none⟩))) v118 wx)
        subst e118
        have e108 : v108 = _ := (hd _ (.tail _ (.tail _ (.tail _ (.tail _ (.tail _ (.tail _ (.tail _ (.tail _ (.tail _ (.tail _ (.head _))))))))))) (by kernel_rfl) : (IsV (.bool false)) v108 wx)
        subst e108
        clear hd
        intro KK hK
        have hcell0 := KY.out _ hx
        go_simp
        exact hK.out _ _ rfl (Below.refl _ _)
      simp only [Act.put, List.setIfInBounds_toArray, List.set_cons_zero, List.set_cons_succ]
      refine Tab.cons IsV.lasting (fun wx hx hd => ?_) (fun v120 => ?_)
      · skip
        have e114 : v114 = _ := (hd _ (.tail _ (.tail _ (.tail _ (.tail _ (.tail _ (.head _)))))) (by kernel_rfl) : (IsV (.slice AS nS cS)) v114 wx)
        subst e114
        have e119 : v119 = _ := (hd _ (.head _) (by kernel_rfl) : (IsV (.slice AY nY cY)) v119 wx)
        subst e119
        have e108 : v108 = _ := (hd _ (.tail _ (.tail _ (.tail _ (.tail _ (.tail _ (.tail _ (.tail _ (.tail _ (.tail _ (.tail _ (.tail _ (.head _)))))))))))) (by kernel_rfl) : (IsV (.bool false)) v108 wx)
        subst e108
        clear hd
        intro KK hK
        go_simp
        refine (rsame_num_yes (RS.out.below hx.out) (RY.out.below hx.out) HTU.out).mono ?_
        rintro e w' ⟨rfl, hb'⟩
        exact hK.out _ _ rfl hb'
      simp only [Act.put, List.setIfInBounds_toArray, List.set_cons_zero, List.set_cons_succ]
      refine Tab.cons IsV.lasting (fun wx hx hd => ?_) (fun v121 => ?_)
      · skip
        have e120 : v120 = _ := (hd _ (.head _) (by kernel_rfl) : (IsV (.bool true)) v120 wx)
        subst e120
        have e108 : v108 = _ := (hd _ (.tail _ (.tail _ (.tail _ (.tail _ (.tail _ (.tail _ (.tail _ (.tail _ (.tail _ (.tail _ (.tail _ (.tail _ (.head _))))))))))))) (by kernel_rfl) : (IsV (.bool false)) v108 wx)
        subst e108
        clear hd
        intro KK hK
        go_simp
        exact hK.out _ _ rfl (Below.refl _ _)
      simp only [Act.put, List.setIfInBounds_toArray, List.set_cons_zero, List.set_cons_succ]
      refine Tab.cons IsV.lasting (fun wx hx hd => ?_) (fun v122 => ?_)
      · skip
        have e108 : v108 = _ := (hd _ (.tail _ (.tail _ (.tail _ (.tail _ (.tail _ (.tail _ (.tail _ (.tail _ (.tail _ (.tail _ (.tail _ (.tail _ (.tail _ (.head _)))))))))))))) (by kernel_rfl) : (IsV (.bool false)) v108 wx)
        subst e108
        have e121 : v121 = _ := (hd _ (.head _) (by kernel_rfl) : (IsV (.bool false)) v121 wx)
        subst e121
        clear hd
        intro KK hK
        go_simp
        exact hK.out _ _ rfl (Below.refl _ _)
      simp only [Act.put, List.setIfInBounds_toArray, List.set_cons_zero, List.set_cons_succ]
      refine Tab.nil fun wx hx hd => ?_
      have e122 : v122 = _ := (hd _ (.head _) : (IsV (.bool false)) v122 wx)
      subst e122
      clear hd
      clear q1 q2 q3 q4 hz1 hz2
      have hx15 := hx.out
      clear hx
      go_wp2_with fail
      clear K0 K1 KS KY RS RY
      go_loopw [12, 13, 14] (fun iv _ _ wr => ∃ i : Nat, i ≤ nE + 1 ∧ iv = .int .i64 (i : Int) ∧ Below w6.heap.size w6 wr) (fun iv _ _ _ => nE + 1 - (intOf iv).toNat)
      case atStart => exact ⟨0, Nat.zero_le _, rfl, hx15⟩
      case round =>
        clear hx15
        obtain ⟨i, hi, rfl, hS1⟩ := hrel
        by_cases hlt : i ≤ nE
        · obtain ⟨bF', oF', A0, m0, e0, hFe, hbF, hcF, hvF⟩ := hrF.at (show i < nf by have := HNF.out; omega)
          obtain ⟨bK', oK', A1, m1, e1, hKe, hbK, hcK, hvK⟩ := hrK.at (show i < nf by have := HNF.out; omega)
          obtain ⟨bW, oW, rfl, hbW, hcW⟩ := h1'.at (show i < nf by have := HNF.out; omega)
          simp only [Option.some.injEq, Addr.mk.injEq, and_true] at hFe hKe
          obtain ⟨rfl, rfl⟩ := hFe
          obtain ⟨rfl, rfl⟩ := hKe
          have hmm : Ws.getD i 0 = (m0 : Int) ∧ m1 = m0 := by
            have h8 := HFF.out.row i (by have := HLENW.out; have := HNF.out; omega)
            have h9 := HFB.out.row i (by have := HLENW.out; have := HNF.out; omega)
            have k8 := hvF.len
            have k9 := hvK.len
            omega
          obtain ⟨hw9, rfl⟩ := hmm
          rw [hw9] at hcW
          have HMI := hide (HM1.out i (by have := HLENE.out; omega))
          have hlF : ((FF Ws ee VN).getD i []).length = m1 := by have := hvF.len; omega
          rw [hlF] at HMI
          obtain ⟨W, hWd⟩ : ∃ W : World, W = wr := ⟨_, rfl⟩
          subst hWd
          have C0 := hide (stays ((hS1.cell (p := ⟨w.heap.size, 0, none⟩) HZ6.out).trans HC6.out.1))
          have K0 := hide (stays ((hS1.cell (p := ⟨bF, oF + i, none⟩) hbF).trans hcF))
          have K1 := hide (stays ((hS1.cell (p := ⟨bK, oK + i, none⟩) hbK).trans hcK))
          have KW := hide (stays ((hS1.cell (p := ⟨bW, oW + i, none⟩) hbW).trans hcW))
          have HCF := hide hcF
          have HCK := hide hcK
          have q3 : (i : Int) < (nf : Int) := by have := HNF.out; omega
          have hi2 : (i : Int) ≤ (nE : Int) := by omega
          have hm63 := hvF.le63
          clear hcK hcW hw9 hlF
          go_wp2_with fail
          refine wp_region_tab 25 223 [IsV (.slice (some ⟨bF, oF, none⟩) nf cf), IsV (.int .i64 (i : Int)), IsV (.pointer (some ⟨bF, oF + i, none⟩)), IsV (.slice A0 m1 e0), IsV (.int .i64 (m1 : Int)), IsV (.pointer (some ⟨w.heap.size, 0, none⟩)), IsV (.pointer (some ⟨w.heap.size, 0, none⟩)), IsV (.slice (some ⟨bW, oW, none⟩) nf cW), IsV (.int .i64 (i : Int)), IsV (.pointer (some ⟨bW, oW + i, none⟩)), IsV (.int .i64 (m1 : Int)), IsV (.bool false), IsV (.bool false), IsV (.slice (some ⟨bK, oK, none⟩) nf cb), IsV (.int .i64 (i : Int)), IsV (.pointer (some ⟨bK, oK + i, none⟩)), IsV (.slice A1 m1 e1), IsV (.int .i64 (m1 : Int)), IsV (.slice (some ⟨bF, oF, none⟩) nf cf), IsV (.int .i64 (i : Int)), IsV (.pointer (some ⟨bF, oF + i, none⟩)), IsV (.slice A0 m1 e0), IsV (.int .i64 (m1 : Int)), IsV (.bool false), IsV (.bool false)] (From W) (by kernel_rfl) (by kernel_rfl) (by kernel_rfl) rfl From.lasts (From.drew (From.refl W)) ?_
          simp only [List.take_succ_cons, List.drop_succ_cons, List.take_nil, List.drop_nil]
          refine Tab.cons IsV.lasting (fun wx hx hd => ?_) (fun v128 => ?_)
          · skip
            clear hd
            intro KK hK
            go_simp
            exact hK.out _ _ rfl (Below.refl _ _)
          simp only [Act.put, List.setIfInBounds_toArray, List.set_cons_zero, List.set_cons_succ]
          refine Tab.cons IsV.lasting (fun wx hx hd => ?_) (fun v129 => ?_)
          · skip
            clear hd
            intro KK hK
            go_simp
            exact hK.out _ _ rfl (Below.refl _ _)
          simp only [Act.put, List.setIfInBounds_toArray, List.set_cons_zero, List.set_cons_succ]
          refine Tab.cons IsV.lasting (fun wx hx hd => ?_) (fun v130 => ?_)
          · skip
            have e128 : v128 = _ := (hd _ (.tail _ (.head _)) (by kernel_rfl) : (IsV (.slice (some ⟨bF, oF, none⟩) nf cf)) v128 wx)
            subst e128
            have e129 : v129 = _ := (hd _ (.head _) (by kernel_rfl) : (IsV (.int .i64 (i : Int))) v129 wx)
            subst e129
            clear hd
            intro KK hK
            go_simp
            exact hK.out _ _ rfl (Below.refl _ _)
          simp only [Act.put, List.setIfInBounds_toArray, List.set_cons_zero, List.set_cons_succ]
          refine Tab.cons IsV.lasting (fun wx hx hd => ?_) (fun v131 => ?_)
          · skip
            have e130 : v130 = _ := (hd _ (.head _) (by kernel_rfl) : (IsV (.pointer (some ⟨bF, oF + i, none⟩))) v130 wx)
            subst e130
            clear hd
            intro KK hK
            have hcell0 := K0.out _ hx
            go_simp
            exact hK.out _ _ rfl (Below.refl _ _)
          simp only [Act.put, List.setIfInBounds_toArray, List.set_cons_zero, List.set_cons_succ]
          refine Tab.cons IsV.lasting (fun wx hx hd => ?_) (fun v132 => ?_)
          · skip
            have e131 : v131 = _ := (hd _ (.head _) (by kernel_rfl) : (IsV (.slice A0 m1 e0)) v131 wx)
            subst e131
            clear hd
            intro KK hK
            go_simp
            exact hK.out _ _ rfl (Below.refl _ _)
          simp only [Act.put, List.setIfInBounds_toArray, List.set_cons_zero, List.set_cons_succ]
          refine Tab.cons IsV.lasting (fun wx hx hd => ?_) (fun v133 => ?_)
          · skip
            clear hd
            intro KK hK
            go_simp
            exact hK.out _ _ rfl (Below.refl _ _)
          simp only [Act.put, List.setIfInBounds_toArray, List.set_cons_zero, List.set_cons_succ]
          refine Tab.cons IsV.lasting (fun wx hx hd => ?_) (fun v134 => ?_)
          · skip
            have e133 : v133 = _ := (hd _ (.head _) (by kernel_rfl) : (IsV (.pointer (some ⟨w.heap.size, 0, none⟩))) v133 wx)
            subst e133
            clear hd
            intro KK hK
            go_simp
            exact hK.out _ _ rfl (Below.refl _ _)
          simp only [Act.put, List.setIfInBounds_toArray, List.set_cons_zero, List.set_cons_succ]
          refine Tab.cons IsV.lasting (fun wx hx hd => ?_) (fun v135 => ?_)
          · skip
            have e134 : v134 = _ := (hd _ (.head _) (by kernel_rfl) : (IsV (.pointer (some ⟨w.heap.size, 0, none⟩))) v134 wx)
            subst e134
            clear hd
            intro KK hK
            have hcell0 := C0.out _ hx
            go_simp
            exact hK.out _ _ rfl (Below.refl _ _)
          simp only [Act.put, List.setIfInBounds_toArray, List.set_cons_zero, List.set_cons_succ]
          refine Tab.cons IsV.lasting (fun wx hx hd => ?_) (fun v136 => ?_)
          · skip
            clear hd
            intro KK hK
            go_simp
            exact hK.out _ _ rfl (Below.refl _ _)
          simp only [Act.put, List.setIfInBounds_toArray, List.set_cons_zero, List.set_cons_succ]
          refine Tab.cons IsV.lasting (fun wx hx hd => ?_) (fun v137 => ?_)
          · skip
            have e135 : v135 = _ := (hd _ (.tail _ (.head _)) (by kernel_rfl) : (IsV (.slice (some ⟨bW, oW, none⟩) nf cW)) v135 wx)
            subst e135
            have e136 : v136 = _ := (hd _ (.head _) (by kernel_rfl) : (IsV (.int .i64 (i : Int))) v136 wx)
            subst e136
            clear hd
            intro KK hK
            go_simp
            exact hK.out _ _ rfl (Below.refl _ _)
          simp only [Act.put, List.setIfInBounds_toArray, List.set_cons_zero, List.set_cons_succ]
          refine Tab.cons IsV.lasting (fun wx hx hd => ?_) (fun v138 => ?_)
          · skip
            have e137 : v137 = _ := (hd _ (.head _) (by kernel_rfl) : (IsV (.pointer (some ⟨bW, oW + i, none⟩))) v137 wx)
            subst e137
            clear hd
            intro KK hK
            have hcell0 := KW.out _ hx
            go_simp
            exact hK.out _ _ rfl (Below.refl _ _)
          simp only [Act.put, List.setIfInBounds_toArray, List.set_cons_zero, List.set_cons_succ]
          refine Tab.cons IsV.lasting (fun wx hx hd => ?_) (fun v139 => ?_)
          · skip
            have e132 : v132 = _ := (hd _ (.tail _ (.tail _ (.tail _ (.tail _ (.tail _ (.tail _ (.head _))))))) (by kernel_rfl) : (IsV (.int .i64 (m1 : Int))) v132 wx)
            subst e132
            have e138 : v138 = _ := (hd _ (.head _) (by kernel_rfl) : (IsV (.int .i64 (m1 : Int))) v138 wx)
            subst e138
            clear hd
            intro KK hK
            go_simp
            exact hK.out _ _ rfl (Below.refl _ _)
          simp only [Act.put, List.setIfInBounds_toArray, List.set_cons_zero, List.set_cons_succ]
          refine Tab.cons IsV.lasting (fun wx hx hd => ?_) (fun v140 => ?_)
          · skip
            have e139 : v139 = _ := (hd _ (.head _) (by kernel_rfl) : (IsV (.bool false)) v139 wx)
            subst e139
            clear hd
            intro KK hK
            go_simp
            exact hK.out _ _ rfl (Below.refl _ _)
          simp only [Act.put, List.setIfInBounds_toArray, List.set_cons_zero, List.set_cons_succ]
          refine Tab.cons IsV.lasting (fun wx hx hd => ?_) (fun v141 => ?_)
          · skip
            have e140 : v140 = _ := (hd _ (.head _) (by kernel_rfl) : (IsV (.bool false)) v140 wx)
            subst e140
            clear hd
            intro KK hK
            go_simp
            exact hK.out _ _ rfl (Below.refl _ _)
          simp only [Act.put, List.setIfInBounds_toArray, List.set_cons_zero, List.set_cons_succ]
          refine Tab.cons IsV.lasting (fun wx hx hd => ?_) (fun v142 => ?_)
          · skip
            have e140 : v140 = _ := (hd _ (.tail _ (.head _)) (by kernel_rfl) : (IsV (.bool false)) v140 wx)
            subst e140
            clear hd
            intro KK hK
            go_simp
            exact hK.out _ _ rfl (Below.refl _ _)
          simp only [Act.put, List.setIfInBounds_toArray, List.set_cons_zero, List.set_cons_succ]
          refine Tab.cons IsV.lasting (fun wx hx hd => ?_) (fun v143 => ?_)
          · skip
            have e141 : v141 = _ := (hd _ (.tail _ (.head _)) (by kernel_rfl) : (IsV (.slice (some ⟨bK, oK, none⟩) nf cb)) v141 wx)
            subst e141
            have e142 : v142 = _ := (hd _ (.head _) (by kernel_rfl) : (IsV (.int .i64 (i : Int))) v142 wx)
            subst e142
            have e140 : v140 = _ := (hd _ (.tail _ (.tail _ (.head _))) (by kernel_rfl) : (IsV (.bool false)) v140 wx)
            subst e140
            clear hd
            intro KK hK
            go_simp
            exact hK.out _ _ rfl (Below.refl _ _)
          simp only [Act.put, List.setIfInBounds_toArray, List.set_cons_zero, List.set_cons_succ]
          refine Tab.cons IsV.lasting (fun wx hx hd => ?_) (fun v144 => ?_)
          · skip
            have e143 : v143 = _ := (hd _ (.head _) (by kernel_rfl) : (IsV (.pointer (some ⟨bK, oK + i, none⟩))) v143 wx)
            subst e143
            have e140 : v140 = _ := (hd _ (.tail _ (.tail _ (.tail _ (.head _)))) (by kernel_rfl) : (IsV (.bool false)) v140 wx)
            subst e140
            clear hd
            intro KK hK
            have hcell0 := K1.out _ hx
            go_simp
            exact hK.out _ _ rfl (Below.refl _ _)
          simp only [Act.put, List.setIfInBounds_toArray, List.set_cons_zero, List.set_cons_succ]
          refine Tab.cons IsV.lasting (fun wx hx hd => ?_) (fun v145 => ?_)
          · skip
            have e144 : v144 = _ := (hd _ (.head _) (by kernel_rfl) : (IsV (.slice A1 m1 e1)) v144 wx)
            subst e144
            have e140 : v140 = _ := (hd _ (.tail _ (.tail _ (.tail _ (.tail _ (.head _))))) (by kernel_rfl) : (IsV (.bool false)) v140 wx)
            subst e140
            clear hd
            intro KK hK
            go_simp
            exact hK.out _ _ rfl (Below.refl _ _)
          simp only [Act.put, List.setIfInBounds_toArray, List.set_cons_zero, List.set_cons_succ]
          refine Tab.cons IsV.lasting (fun wx hx hd => ?_) (fun v146 => ?_)
          · skip
            have e140 : v140 = _ := (hd _ (.tail _ (.tail _ (.tail _ (.tail _ (.tail _ (.head _)))))) (by kernel_rfl) : (IsV (.bool false)) v140 wx)
            subst e140
            clear hd
            intro KK hK
            go_simp
            exact hK.out _ _ rfl (Below.refl _ _)
          simp only [Act.put, List.setIfInBounds_toArray, List.set_cons_zero, List.set_cons_succ]
          refine Tab.cons IsV.lasting (fun wx hx hd => ?_) (fun v147 => ?_)
          · skip
            have e140 : v140 = _ := (hd _ (.tail _ (.tail _ (.tail _ (.tail _ (.tail _ (.tail _ (.head _))))))) (by kernel_rfl) : (IsV (.bool false)) v140 wx)
            subst e140
            clear hd
            intro KK hK
            go_simp
            exact hK.out _ _ rfl (Below.refl _ _)
          simp only [Act.put, List.setIfInBounds_toArray, List.set_cons_zero, List.set_cons_succ]
          refine Tab.cons IsV.lasting (fun wx hx hd => ?_) (fun v148 => ?_)
          · skip
            have e146 : v146 = _ := (hd _ (.tail _ (.head _)) (by kernel_rfl) : (IsV (.slice (some ⟨bF, oF, none⟩) nf cf)) v146 wx)
            subst e146
            have e147 : v147 = _ := (hd _ (.head _) (by kernel_rfl) : (IsV (.int .i64 (i : Int))) v147 wx)
            subst e147
            have e140 : v140 = _ := (hd _ (.tail _ (.tail _ (.tail _ (.tail _ (.tail _ (.tail _ (.tail _ (.head _)))))))) (by kernel_rfl) : (IsV (.bool false)) v140 wx)
            subst e140
            clear hd
            intro KK hK
            go_simp
            exact hK.out _ _ rfl (Below.refl _ _)
          simp only [Act.put, List.setIfInBounds_toArray, List.set_cons_zero, List.set_cons_succ]
          refine Tab.cons IsV.lasting (fun wx hx hd => ?_) (fun v149 => ?_)
          · skip
            have e148 : v148 = _ := (hd _ (.head _) (by kernel_rfl) : (IsV (.pointer (some ⟨bF, oF + i, none⟩))) v148 wx)
            subst e148
            have e140 : v140 = _ := (hd _ (.tail _ (.tail _ (.tail _ (.tail _ (.tail _ (.tail _ (.tail _ (.tail _ (.head _))))))))) (by kernel_rfl) : (IsV (.bool false)) v140 wx)
            subst e140
            clear hd
            intro KK hK
            have hcell0 := K0.out _ hx
            go_simp
            exact hK.out _ _ rfl (Below.refl _ _)
          simp only [Act.put, List.setIfInBounds_toArray, List.set_cons_zero, List.set_cons_succ]
          refine Tab.cons IsV.lasting (fun wx hx hd => ?_) (fun v150 => ?_)
          · skip
            have e149 : v149 = _ := (hd _ (.head _) (by kernel_rfl) : (IsV (.slice A0 m1 e0)) v149 wx)
            subst e149
            have e140 : v140 = _ := (hd _ (.tail _ (.tail _ (.tail _ (.tail _ (.tail _ (.tail _ (.tail _ (.tail _ (.tail _ (.head _)))))))))) (by kernel_rfl) : (IsV (.bool false)) v140 wx)
            subst e140
            clear hd
            intro KK hK
            go_simp
            exact hK.out _ _ rfl (Below.refl _ _)
          simp only [Act.put, List.setIfInBounds_toArray, List.set_cons_zero, List.set_cons_succ]
          refine Tab.cons IsV.lasting (fun wx hx hd => ?_) (fun v151 => ?_)
          · skip
            have e145 : v145 = _ := (hd _ (.tail _ (.tail _ (.tail _ (.tail _ (.tail _ (.head _)))))) (by kernel_rfl) : (IsV (.int .i64 (m1 : Int))) v145 wx)
            subst e145
            have e150 : v150 = _ := (hd _ (.head _) (by kernel_rfl) : (IsV (.int .i64 (m1 : Int))) v150 wx)
            subst e150
            have e140 : v140 = _ := (hd _ (.tail _ (.tail _ (.tail _ (.tail _ (.tail _ (.tail _ (.tail _ (.tail _ (.tail _ (.tail _ (.head _))))))))))) (by kernel_rfl) : (IsV (.bool false)) v140 wx)
            subst e140
            clear hd
            intro KK hK
            go_simp
            exact hK.out _ _ rfl (Below.refl _ _)
          simp only [Act.put, List.setIfInBounds_toArray, List.set_cons_zero, List.set_cons_succ]
          refine Tab.cons IsV.lasting (fun wx hx hd => ?_) (fun v152 => ?_)
          · skip
            have e140 : v140 = _ := (hd _ (.tail _ (.tail _ (.tail _ (.tail _ (.tail _ (.tail _ (.tail _ (.tail _ (.tail _ (.tail _ (.tail _ (.head _)))))))))))) (by kernel_rfl) : (IsV (.bool false)) v140 wx)
            subst e140
            have e151 : v151 = _ := (hd _ (.head _) (by kernel_rfl) : (IsV (.bool false)) v151 wx)
            subst e151
            clear hd
            intro KK hK
            go_simp
            exact hK.out _ _ rfl (Below.refl _ _)
          simp only [Act.put, List.setIfInBounds_toArray, List.set_cons_zero, List.set_cons_succ]
          refine Tab.nil fun wx hx hd => ?_
          have e152 : v152 = _ := (hd _ (.head _) : (IsV (.bool false)) v152 wx)
          subst e152
          clear hd
          have hB20 := hS1.trans (hx.out.mono hS1.size)
          have hB21 := hB20.trans ((below_alloc wx (.cells #[] 49)).mono hB20.size)
          have hc20 := (hB20.cell (p := ⟨bF, oF + i, none⟩) hbF).trans hcF
          clear hx
          go_wp2_with fail
          clear K0 K1 KW C0 hc20
          go_loopw [13, 14] (fun sv kv wr => ∃ (k : Nat) (As : Option Addr) (ns cs : Nat), k ≤ m1 ∧ kv = .int .i64 (k : Int) ∧ sv = .slice As ns cs ∧ Rd wr As ns cs (limbs (addTo (fun v => at2 0 (FF Ws ee VN) i v * at2 0 (FB Ws ee VN) i v) k)) ∧ Below w6.heap.size w6 wr) (fun _ kv _ => m1 - (intOf kv).toNat)
          case atStart => exact ⟨0, _, 0, 0, Nat.zero_le _, rfl, rfl, ⟨rfl, Nat.le_refl _, Nat.zero_le _, Lims.nil, fun h9 => absurd h9 (by omega)⟩, hB21⟩
          case round =>
            clear hB20 hB21 hS1 hcF
            obtain ⟨k, AP, nP, cP, hk, rfl, rfl, hRP, hS2⟩ := hrel
            have hle := addTo_le (f := fun v => at2 0 (FF Ws ee VN) i v * at2 0 (FB Ws ee VN) i v) hk
            rw [HMI.out] at hle
            have hnP : nP ≤ 200 := by
              rw [← hRP.len]
              exact length_limbs_cap (Nat.lt_of_le_of_lt hle HCT.out)
            have hcF2 := (hS2.cell (p := ⟨bF, oF + i, none⟩) hbF).trans HCF.out
            by_cases hltk : k < m1
            · obtain ⟨b2', o2', vS', rfl, hb2', hcS', AF, nF, cF, rfl, hRF', hKF'⟩ := hvF.at1 hltk
              obtain ⟨b3', o3', vY', rfl, hb3', hcY', AB, nB, cB, rfl, hRB', hKB'⟩ := hvK.at1 hltk
              have hnx : addTo (fun v => at2 0 (FF Ws ee VN) i v * at2 0 (FB Ws ee VN) i v) (k + 1) = addTo (fun v => at2 0 (FF Ws ee VN) i v * at2 0 (FB Ws ee VN) i v) k + at2 0 (FF Ws ee VN) i k * at2 0 (FB Ws ee VN) i k := rfl
              have hle2 := addTo_le (f := fun v => at2 0 (FF Ws ee VN) i v * at2 0 (FB Ws ee VN) i v) (show k + 1 ≤ m1 by omega)
              rw [HMI.out, hnx] at hle2
              have HCAP := hide (Nat.lt_of_le_of_lt hle2 HCT.out)
              have HPN := hide hnx
              obtain ⟨W, hWd⟩ : ∃ W : World, W = wr := ⟨_, rfl⟩
              subst hWd
              have K0 := hide (stays hcF2)
              have K1 := hide (stays ((hS2.cell (p := ⟨bK, oK + i, none⟩) hbK).trans HCK.out))
              have KS := hide (stays ((hS2.cell (p := ⟨b2', o2' + k, none⟩) hb2').trans hcS'))
              have KY := hide (stays ((hS2.cell (p := ⟨b3', o3' + k, none⟩) hb3').trans hcY'))
              have hRF2 : Rd W AF nF cF (limbs (at2 0 (FF Ws ee VN) i k)) := hRF'.below hS2
              have hRB2 : Rd W AB nB cB (limbs (at2 0 (FB Ws ee VN) i k)) := hRB'.below hS2
              have RF := hide hRF2
              have RB := hide hRB2
              have RP := hide hRP
              have q4 : (k : Int) < (m1 : Int) := by omega
              clear hnx hle2 hle hRF2 hRB2 hRF' hRB' hRP hcS' hcY'
              generalize addTo (fun v => at2 0 (FF Ws ee VN) i v * at2 0 (FB Ws ee VN) i v) k = p at *
              generalize at2 0 (FF Ws ee VN) i k = s at *
              generalize at2 0 (FB Ws ee VN) i k = y at *
              go_wp2_with fail
              refine wp_region_tab 18 223 [IsV (.slice AP nP cP), IsV (.slice (some ⟨bF, oF, none⟩) nf cf), IsV (.int .i64 (i : Int)), IsV (.pointer (some ⟨bF, oF + i, none⟩)), IsV (.slice (some ⟨b2', o2', none⟩) m1 e0), IsV (.int .i64 (k : Int)), IsV (.pointer (some ⟨b2', o2' + k, none⟩)), IsV (.slice AF nF cF), IsV (.slice (some ⟨bK, oK, none⟩) nf cb), IsV (.int .i64 (i : Int)), IsV (.pointer (some ⟨bK, oK + i, none⟩)), IsV (.slice (some ⟨b3', o3', none⟩) m1 e1), IsV (.int .i64 (k : Int)), IsV (.pointer (some ⟨b3', o3' + k, none⟩)), IsV (.slice AB nB cB), IsNum (s * y) 400, IsNum (p + s * y) 200, IsNum (p + s * y) 200] (From W) (by kernel_rfl) (by kernel_rfl) (by kernel_rfl) rfl From.lasts (From.drew (From.refl W)) ?_
              simp only [List.take_succ_cons, List.drop_succ_cons, List.take_nil, List.drop_nil]
              refine Tab.cons IsV.lasting (fun wx hx hd => ?_) (fun v163 => ?_)
              · skip
                clear hd
                intro KK hK
                go_simp
                exact hK.out _ _ rfl (Below.refl _ _)
              simp only [Act.put, List.setIfInBounds_toArray, List.set_cons_zero, List.set_cons_succ]
              refine Tab.cons IsV.lasting (fun wx hx hd => ?_) (fun v164 => ?_)
              · skip
                clear hd
                intro KK hK
                go_simp
                exact hK.out _ _ rfl (Below.refl _ _)
              simp only [Act.put, List.setIfInBounds_toArray, List.set_cons_zero, List.set_cons_succ]
              refine Tab.cons IsV.lasting (fun wx hx hd => ?_) (fun v165 => ?_)
              · skip
                clear hd
                intro KK hK
                go_simp
                exact hK.out _ _ rfl (Below.refl _ _)
              simp only [Act.put, List.setIfInBounds_toArray, List.set_cons_zero, List.set_cons_succ]
              refine Tab.cons IsV.lasting (fun wx hx hd => ?_) (fun v166 => ?_)
              · skip
                have e164 : v164 = _ := (hd _ (.tail _ (.head _)) (by kernel_rfl) : (IsV (.slice (some ⟨bF, oF, none⟩) nf cf)) v164 wx)
                subst e164
                have e165 : v165 = _ := (hd _ (.head _) (by kernel_rfl) : (IsV (.int .i64 (i : Int))) v165 wx)
                subst e165
                clear hd
                intro KK hK
                go_simp
                exact hK.out _ _ rfl (Below.refl _ _)
              simp only [Act.put, List.setIfInBounds_toArray, List.set_cons_zero, List.set_cons_succ]
              refine Tab.cons IsV.lasting (fun wx hx hd => ?_) (fun v167 => ?_)
              · skip
                have e166 : v166 = _ := (hd _ (.head _) (by kernel_rfl) : (IsV (.pointer (some ⟨bF, oF + i, none⟩))) v166 wx)
                subst e166
                clear hd
                intro KK hK
                have hcell0 := K0.out _ hx
                go_simp
                exact hK.out _ _ rfl (Below.refl _ _)
              simp only [Act.put, List.setIfInBounds_toArray, List.set_cons_zero, List.set_cons_succ]
              refine Tab.cons IsV.lasting (fun wx hx hd => ?_) (fun v168 => ?_)
              · skip
                clear hd
                intro KK hK
                go_simp
                exact hK.out _ _ rfl (Below.refl _ _)
              simp only [Act.put, List.setIfInBounds_toArray, List.set_cons_zero, List.set_cons_succ]
              refine Tab.cons IsV.lasting (fun wx hx hd => ?_) (fun v169 => ?_)
              · skip
                have e167 : v167 = _ := (hd _ (.tail _ (.head _)) (by kernel_rfl) : (IsV (.slice (some ⟨b2', o2', none⟩) m1 e0)) v167 wx)
                subst e167
                have e168 : v168 = _ := (hd _ (.head _) (by kernel_rfl) : (IsV (.int .i64 (k : Int))) v168 wx)
                subst e168
                clear hd
                intro KK hK
                go_simp
                exact hK.out _ _ rfl (Below.refl _ _)
              simp only [Act.put, List.setIfInBounds_toArray, List.set_cons_zero, List.set_cons_succ]
              refine Tab.cons IsV.lasting (fun wx hx hd => ?_) (fun v170 => ?_)
              · skip
                have e169 : v169 = _ := (hd _ (.head _) (by kernel_rfl) : (IsV (.pointer (some ⟨b2', o2' + k, none⟩))) v169 wx)
                subst e169
                clear hd
                intro KK hK
                have hcell0 := KS.out _ hx
                go_simp
                exact hK.out _ _ rfl (Below.refl _ _)
              simp only [Act.put, List.setIfInBounds_toArray, List.set_cons_zero, List.set_cons_succ]
              refine Tab.cons IsV.lasting (fun wx hx hd => ?_) (fun v171 => ?_)
              · skip
                clear hd
                intro KK hK
                go_simp
                exact hK.out _ _ rfl (Below.refl _ _)
              simp only [Act.put, List.setIfInBounds_toArray, List.set_cons_zero, List.set_cons_succ]
              refine Tab.cons IsV.lasting (fun wx hx hd => ?_) (fun v172 => ?_)
              · skip
                clear hd
                intro KK hK
                go_simp
                exact hK.out _ _ rfl (Below.refl _ _)
              simp only [Act.put, List.setIfInBounds_toArray, List.set_cons_zero, List.set_cons_succ]
              refine Tab.cons IsV.lasting (fun wx hx hd => ?_) (fun v173 => ?_)
              · skip
                have e171 : v171 = _ := (hd _ (.tail _ (.head _)) (by kernel_rfl) : (IsV (.slice (some ⟨bK, oK, none⟩) nf cb)) v171 wx)
                subst e171
                have e172 : v172 = _ := (hd _ (.head _) (by kernel_rfl) : (IsV (.int .i64 (i : Int))) v172 wx)
                subst e172
                clear hd
                intro KK hK
                go_simp
                exact hK.out _ _ rfl (Below.refl _ _)
              simp only [Act.put, List.setIfInBounds_toArray, List.set_cons_zero, List.set_cons_succ]
              refine Tab.cons IsV.lasting (fun wx hx hd => ?_) (fun v174 => ?_)
              · skip
                have e173 : v173 = _ := (hd _ (.head _) (by kernel_rfl) : (IsV (.pointer (some ⟨bK, oK + i, none⟩))) v173 wx)
                subst e173
                clear hd
                intro KK hK
                have hcell0 := K1.out _ hx
                go_simp
                exact hK.out _ _ rfl (Below.refl _ _)
              simp only [Act.put, List.setIfInBounds_toArray, List.set_cons_zero, List.set_cons_succ]
              refine Tab.cons IsV.lasting (fun wx hx hd => ?_) (fun v175 => ?_)
              · skip
                clear hd
                intro KK hK
                go_simp
                exact hK.out _ _ rfl (Below.refl _ _)
              simp only [Act.put, List.setIfInBounds_toArray, List.set_cons_zero, List.set_cons_succ]
              refine Tab.cons IsV.lasting (fun wx hx hd => ?_) (fun v176 => ?_)
              · skip
                have e174 : v174 = _ := (hd _ (.tail _ (.head _)) (by kernel_rfl) : (IsV (.slice (some ⟨b3', o3', none⟩) m1 e1)) v174 wx)
                subst e174
                have e175 : v175 = _ := (hd _ (.head _) (by kernel_rfl) : (IsV (.int .i64 (k : Int))) v175 wx)
                subst e175
                clear hd
                intro KK hK
                go_simp
                exact hK.out _ _ rfl (Below.refl _ _)
              simp only [Act.put, List.setIfInBounds_toArray, List.set_cons_zero, List.set_cons_succ]
              refine Tab.cons IsV.lasting (fun wx hx hd => ?_) (fun v177 => ?_)
              · skip
                have e176 : v176 = _ := (hd _ (.head _) (by kernel_rfl) : (IsV (.pointer (some ⟨b3', o3' + k, none⟩))) v176 wx)
                subst e176
                clear hd
                intro KK hK
                have hcell0 := KY.out _ hx
                go_simp
                exact hK.out _ _ rfl (Below.refl _ _)
              simp only [Act.put, List.setIfInBounds_toArray, List.set_cons_zero, List.set_cons_succ]
              refine Tab.cons IsNum.lasting (fun wx hx hd => ?_) (fun v178 => ?_)
              · skip
                have e170 : v170 = _ := (hd _ (.tail _ (.tail _ (.tail _ (.tail _ (.tail _ (.tail _ (.tail _ (.head _)))))))) (by kernel_rfl) : (IsV (.slice AF nF cF)) v170 wx)
                subst e170
                have e177 : v177 = _ := (hd _ (.head _) (by kernel_rfl) : (IsV (.slice AB nB cB)) v177 wx)
                subst e177
                clear hd
                intro KK hK
                go_simp
                refine (rmul_any _ _ _ _ _ _ _ _ _ (RF.out.below hx.out) (RB.out.below hx.out) (by omega)).mono ?_
                rintro e w' ⟨A', n', c', rfl, h', hb'⟩
                have h9 : Rd w' A' n' c' (limbs (s * y)) := by simpa only [val_limbs] using h'
                exact hK.out _ _ ⟨A', n', c', rfl, h9, by rw [← h9.len]; exact Nat.le_trans (length_limbs_cap (Nat.lt_of_le_of_lt (Nat.le_add_left _ _) HCAP.out)) (by omega)⟩ hb'
              simp only [Act.put, List.setIfInBounds_toArray, List.set_cons_zero, List.set_cons_succ]
              refine Tab.cons IsNum.lasting (fun wx hx hd => ?_) (fun v179 => ?_)
              · skip
                have e163 : v163 = _ := (hd _ (.tail _ (.tail _ (.tail _ (.tail _ (.tail _ (.tail _ (.tail _ (.tail _ (.tail _ (.tail _ (.tail _ (.tail _ (.tail _ (.tail _ (.tail _ (.head _)))))))))))))))) (by kernel_rfl) : (IsV (.slice AP nP cP)) v163 wx)
                subst e163
                obtain ⟨A178, n178, c178, rfl, h178, k178⟩ := (hd _ (.head _) (by kernel_rfl) : (IsNum (s * y) 400) v178 wx)
                clear hd
                intro KK hK
                go_simp
                refine (radd_any _ _ _ _ _ _ _ _ _ (RP.out.below hx.out) h178 (by omega) (by omega)).mono ?_
                rintro e w' ⟨A', n', c', rfl, h', hb'⟩
                have h9 : Rd w' A' n' c' (limbs (p + s * y)) := by simpa only [val_limbs] using h'
                exact hK.out _ _ ⟨A', n', c', rfl, h9, by rw [← h9.len]; exact length_limbs_cap HCAP.out⟩ hb'
              simp only [Act.put, List.setIfInBounds_toArray, List.set_cons_zero, List.set_cons_succ]
              refine Tab.cons IsNum.lasting (fun wx hx hd => ?_) (fun v13 => ?_)
              · skip
                obtain ⟨A179, n179, c179, rfl, h179, k179⟩ := (hd _ (.head _) (by kernel_rfl) : (IsNum (p + s * y) 200) v179 wx)
                clear hd
                intro KK hK
                go_simp
                exact hK.out _ _ ⟨A179, n179, c179, rfl, h179, k179⟩ (Below.refl _ _)
              simp only [Act.put, List.setIfInBounds_toArray, List.set_cons_zero, List.set_cons_succ]
              refine Tab.nil fun wx hx hd => ?_
              obtain ⟨A13, n13, c13, rfl, h13, k13⟩ := (hd _ (.head _) : (IsNum (p + s * y) 200) v13 wx)
              clear hd
              clear q3 q4
              have hB26 := hS2.trans (hx.out.mono hS2.size)
              clear hx
              go_wp2
              go_roundw
              case rel => exact ⟨k + 1, A13, n13, c13, by omega, by go_num, rfl, by rw [HPN.out]; exact h13, hB26⟩
              case measure => simp [intOf]; omega
            · obtain rfl : k = m1 := by omega
              rw [HMI.out] at hRP
              have hcn := (hS2.cell (p := ⟨bF, oF + nE, none⟩) hbFn).trans HFN.out.1
              have hcs := (hS2.cell (p := ⟨b0, o0, none⟩) hb0).trans HFN.out.2
              have hRn := HRSN.out.below hS2
              have q1 : (nE : Int) < (nf : Int) := by have := HNF.out; omega
              have q2 : (0 : Int) < (mn : Int) := by omega
              clear hle
              go_wp2_with fail
              refine (rsame_num_yes hRP hRn rfl).mono ?_
              rintro e w9 ⟨rfl, hb9⟩
              have HB9 := hide (hS2.trans (hb9.mono hS2.size))
              clear hb9 hcn hcs hRn hRP hcF2
              go_wp2
              go_roundw
              case rel => exact ⟨i + 1, by omega, by go_num, HB9.out⟩
              case measure => simp [intOf]; omega
        · have hiE : ¬ (i : Int) ≤ (nE : Int) := by omega
          go_wp2_with fail
          clear hiE
          go_loopw [15] (fun iv wr => ∃ i : Nat, i ≤ nE ∧ iv = .int .i64 (i : Int) ∧ Below w6.heap.size w6 wr) (fun iv _ => nE - (intOf iv).toNat)
          case atStart => exact ⟨0, Nat.zero_le _, rfl, hS1⟩
          case round =>
            clear hS1 hi hlt
            obtain ⟨i, hi, rfl, hS1⟩ := hrel
            by_cases hlt : i < nE
            · obtain ⟨bH, oH, AH, mh, eh, rfl, hbH, hcH, hvH⟩ := hrH.at hlt
              obtain ⟨bE, oE, rfl, hbE, hcE⟩ := h2'.cells (by omega)
              obtain ⟨AEi, njE, eE, hcEi, hrE⟩ := hcE i hlt
              have hie : i < ee.length := by have := HLENE.out; omega
              have hrow : (thrAll (FF Ws ee VN) (FB Ws ee VN) ee VN).getD i [] = thr (FF Ws ee VN) (FB Ws ee VN) i (ee.getD i []) (VN.getD i []) := by
                unfold thrAll
                simp [List.getD_eq_getElem?_getD, hie]
              rw [hrow] at hvH
              have hll := HVNR.out i (by have := HSZ.out; omega)
              have hmh : mh = njE := by
                have k1 := hvH.len
                have k2 := hrE.len
                have k3 := thr_len (F := FF Ws ee VN) (B := FB Ws ee VN) (i := i) (es := ee.getD i []) (xs := VN.getD i []) hll.symm
                omega
              obtain rfl : njE = mh := hmh.symm
              have hsum := HM3.out i hie
              generalize thr (FF Ws ee VN) (FB Ws ee VN) i (ee.getD i []) (VN.getD i []) = rh at *
              have HST := hide hsum
              have HSC : Hid (rh.sum < cap200) := by rw [Hid, hsum]; exact HCT.out
              obtain ⟨W, hWd⟩ : ∃ W : World, W = wr := ⟨_, rfl⟩
              subst hWd
              have C1 := hide (stays ((hS1.cell (p := ⟨w.heap.size, 1, none⟩) HZ6.out).trans HC6.out.2))
              have KEE := hide (stays ((hS1.cell (p := ⟨bE, oE + i, none⟩) hbE).trans hcEi))
              have KH := hide (stays ((hS1.cell (p := ⟨bH, oH + i, none⟩) hbH).trans hcH))
              have K0 := hide (stays ((hS1.cell (p := ⟨bF, oF + nE, none⟩) hbFn).trans HFN.out.1))
              have KS := hide (stays ((hS1.cell (p := ⟨b0, o0, none⟩) hb0).trans HFN.out.2))
              have RS := hide (HRSN.out.below hS1)
              have RHR := hide (hvH.below hS1)
              have q1 : (i : Int) < (nE : Int) := by omega
              have q2 : (nE : Int) < (nf : Int) := by have := HNF.out; omega
              have q3 : ((njE : Int) != (njE : Int)) = false := by simp
              have q4 : (0 : Int) < (mn : Int) := by omega
              clear hsum hll hrow hie hcE hcEi hcH hvH hrE
              go_wp2_with fail
              refine wp_region_tab 29 223 [IsV (.slice (some ⟨bH, oH, none⟩) nE ch), IsV (.int .i64 (i : Int)), IsV (.pointer (some ⟨bH, oH + i, none⟩)), IsV (.slice AH njE eh), IsV (.int .i64 (njE : Int)), IsV (.pointer (some ⟨w.heap.size, 0, none⟩)), IsV (.pointer (some ⟨w.heap.size, 1, none⟩)), IsV (.slice (some ⟨bE, oE, none⟩) nE cE), IsV (.int .i64 (i : Int)), IsV (.pointer (some ⟨bE, oE + i, none⟩)), IsV (.slice AEi njE eE), IsV (.int .i64 (njE : Int)), IsV (.bool false), IsV (.bool false), IsV (.agg #[]), IsV (.slice (some ⟨bH, oH, none⟩) nE ch), IsV (.int .i64 (i : Int)), IsV (.pointer (some ⟨bH, oH + i, none⟩)), IsV (.slice AH njE eh), IsNum (rh.sum) 200, IsV (.slice (some ⟨bF, oF, none⟩) nf cf), IsV (.int .i64 (nE : Int)), IsV (.pointer (some ⟨bF, oF + nE, none⟩)), IsV (.slice (some ⟨b0, o0, none⟩) mn en), IsV (.pointer (some ⟨b0, o0, none⟩)), IsV (.slice AS nS cS), IsV (.bool true), IsV (.bool false), IsV (.bool false)] (From W) (by kernel_rfl) (by kernel_rfl) (by kernel_rfl) rfl From.lasts (From.drew (From.refl W)) ?_
              simp only [List.take_succ_cons, List.drop_succ_cons, List.take_nil, List.drop_nil]
              refine Tab.cons IsV.lasting (fun wx hx hd => ?_) (fun v194 => ?_)
              · skip
                clear hd
                intro KK hK
                go_simp
                exact hK.out _ _ rfl (Below.refl _ _)
              simp only [Act.put, List.setIfInBounds_toArray, List.set_cons_zero, List.set_cons_succ]
              refine Tab.cons IsV.lasting (fun wx hx hd => ?_) (fun v195 => ?_)
              · skip
                clear hd
                intro KK hK
                go_simp
                exact hK.out _ _ rfl (Below.refl _ _)
              simp only [Act.put, List.setIfInBounds_toArray, List.set_cons_zero, List.set_cons_succ]
              refine Tab.cons IsV.lasting (fun wx hx hd => ?_) (fun v196 => ?_)
              · skip
                have e194 : v194 = _ := (hd _ (.tail _ (.head _)) (by kernel_rfl) : (IsV (.slice (some ⟨bH, oH, none⟩) nE ch)) v194 wx)
                subst e194
                have e195 : v195 = _ := (hd _ (.head _) (by kernel_rfl) : (IsV (.int .i64 (i : Int))) v195 wx)
                subst e195
                clear hd
                intro KK hK
                go_simp
                exact hK.out _ _ rfl (Below.refl _ _)
              simp only [Act.put, List.setIfInBounds_toArray, List.set_cons_zero, List.set_cons_succ]
              refine Tab.cons IsV.lasting (fun wx hx hd => ?_) (fun v197 => ?_)
              · skip
                have e196 : v196 = _ := (hd _ (.head _) (by kernel_rfl) : (IsV (.pointer (some ⟨bH, oH + i, none⟩))) v196 wx)
                subst e196
                clear hd
                intro KK hK
                have hcell0 := KH.out _ hx
                go_simp
                exact hK.out _ _ rfl (Below.refl _ _)
              simp only [Act.put, List.setIfInBounds_toArray, List.set_cons_zero, List.set_cons_succ]
              refine Tab.cons IsV.lasting (fun wx hx hd => ?_) (fun v198 => ?_)
              · skip
                have e197 : v197 = _ := (hd _ (.head _) (by kernel_rfl) : (IsV (.slice AH njE eh)) v197 wx)
                subst e197
                clear hd
                intro KK hK
                go_simp
                exact hK.out _ _ rfl (Below.refl _ _)
              simp only [Act.put, List.setIfInBounds_toArray, List.set_cons_zero, List.set_cons_succ]
              refine Tab.cons IsV.lasting (fun wx hx hd => ?_) (fun v199 => ?_)
              · skip
                clear hd
                intro KK hK
                go_simp
                exact hK.out _ _ rfl (Below.refl _ _)
              simp only [Act.put, List.setIfInBounds_toArray, List.set_cons_zero, List.set_cons_succ]
              refine Tab.cons IsV.lasting (fun wx hx hd => ?_) (fun v200 => ?_)
              · skip
                have e199 : v199 = _ := (hd _ (.head _) (by kernel_rfl) : (IsV (.pointer (some ⟨w.heap.size, 0, none⟩))) v199 wx)
                subst e199
                clear hd
                intro KK hK
                go_simp
                exact hK.out _ _ rfl (Below.refl _ _)
              simp only [Act.put, List.setIfInBounds_toArray, List.set_cons_zero, List.set_cons_succ]
              refine Tab.cons IsV.lasting (fun wx hx hd => ?_) (fun v201 => ?_)
              · skip
                have e200 : v200 = _ := (hd _ (.head _) (by kernel_rfl) : (IsV (.pointer (some ⟨w.heap.size, 1, none⟩))) v200 wx)
                subst e200
                clear hd
                intro KK hK
                have hcell0 := C1.out _ hx
                go_simp
                exact hK.out _ _ rfl (Below.refl _ _)
              simp only [Act.put, List.setIfInBounds_toArray, List.set_cons_zero, List.set_cons_succ]
              refine Tab.cons IsV.lasting (fun wx hx hd => ?_) (fun v202 => ?_)
              · skip
                clear hd
                intro KK hK
                go_simp
                exact hK.out _ _ rfl (Below.refl _ _)
              simp only [Act.put, List.setIfInBounds_toArray, List.set_cons_zero, List.set_cons_succ]
              refine Tab.cons IsV.lasting (fun wx hx hd => ?_) (fun v203 => ?_)
              · skip
                have e201 : v201 = _ := (hd _ (.tail _ (.head _)) (by kernel_rfl) : (IsV (.slice (some ⟨bE, oE, none⟩) nE cE)) v201 wx)
                subst e201
                have e202 : v202 = _ := (hd _ (.head _) (by kernel_rfl) : (IsV (.int .i64 (i : Int))) v202 wx)
                subst e202
                clear hd
                intro KK hK
                go_simp
                exact hK.out _ _ rfl (Below.refl _ _)
              simp only [Act.put, List.setIfInBounds_toArray, List.set_cons_zero, List.set_cons_succ]
              refine Tab.cons IsV.lasting (fun wx hx hd => ?_) (fun v204 => ?_)
              · skip
                have e203 : v203 = _ := (hd _ (.head _) (by kernel_rfl) : (IsV (.pointer (some ⟨bE, oE + i, none⟩))) v203 wx)
                subst e203
                clear hd
                intro KK hK
                have hcell0 := KEE.out _ hx
                go_simp
                exact hK.out _ _ rfl (Below.refl _ _)
              simp only [Act.put, List.setIfInBounds_toArray, List.set_cons_zero, List.set_cons_succ]
              refine Tab.cons IsV.lasting (fun wx hx hd => ?_) (fun v205 => ?_)
              · skip
                have e204 : v204 = _ := (hd _ (.head _) (by kernel_rfl) : (IsV (.slice AEi njE eE)) v204 wx)
                subst e204
                clear hd
                intro KK hK
                go_simp
                exact hK.out _ _ rfl (Below.refl _ _)
              simp only [Act.put, List.setIfInBounds_toArray, List.set_cons_zero, List.set_cons_succ]
              refine Tab.cons IsV.lasting (fun wx hx hd => ?_) (fun v206 => ?_)
              · skip
                have e198 : v198 = _ := (hd _ (.tail _ (.tail _ (.tail _ (.tail _ (.tail _ (.tail _ (.tail _ (.head _)))))))) (by kernel_rfl) : (IsV (.int .i64 (njE : Int))) v198 wx)
                subst e198
                have e205 : v205 = _ := (hd _ (.head _) (by kernel_rfl) : (IsV (.int .i64 (njE : Int))) v205 wx)
                subst e205
                clear hd
                intro KK hK
                go_simp
                exact hK.out _ _ rfl (Below.refl _ _)
              simp only [Act.put, List.setIfInBounds_toArray, List.set_cons_zero, List.set_cons_succ]
              refine Tab.cons IsV.lasting (fun wx hx hd => ?_) (fun v207 => ?_)
              · skip
                have e206 : v206 = _ := (hd _ (.head _) (by kernel_rfl) : (IsV (.bool false)) v206 wx)
                subst e206
                clear hd
                intro KK hK
                go_simp
                exact hK.out _ _ rfl (Below.refl _ _)
              simp only [Act.put, List.setIfInBounds_toArray, List.set_cons_zero, List.set_cons_succ]
              refine Tab.cons IsV.lasting (fun wx hx hd => ?_) (fun v208 => ?_)
              · skip
                have e207 : v207 = _ := (hd _ (.head _) (by kernel_rfl) : (IsV (.bool false)) v207 wx)
                subst e207
                clear hd
                intro KK hK
                go_simp
                exact hK.out _ _ rfl (Below.refl _ _)
              simp only [Act.put, List.setIfInBounds_toArray, List.set_cons_zero, List.set_cons_succ]
              refine Tab.cons IsV.lasting (fun wx hx hd => ?_) (fun v209 => ?_)
              · skip
                have e207 : v207 = _ := (hd _ (.tail _ (.head _)) (by kernel_rfl) : (IsV (.bool false)) v207 wx)
                subst e207
                clear hd
                intro KK hK
                go_simp
                exact hK.out _ _ rfl (Below.refl _ _)
              simp only [Act.put, List.setIfInBounds_toArray, List.set_cons_zero, List.set_cons_succ]
              refine Tab.cons IsV.lasting (fun wx hx hd => ?_) (fun v210 => ?_)
              · skip
                have e207 : v207 = _ := (hd _ (.tail _ (.tail _ (.head _))) (by kernel_rfl) : (IsV (.bool false)) v207 wx)
                subst e207
                clear hd
                intro KK hK
                go_simp
                exact hK.out _ _ rfl (Below.refl _ _)
              simp only [Act.put, List.setIfInBounds_toArray, List.set_cons_zero, List.set_cons_succ]
              refine Tab.cons IsV.lasting (fun wx hx hd => ?_) (fun v211 => ?_)
              · skip
                have e209 : v209 = _ := (hd _ (.tail _ (.head _)) (by kernel_rfl) : (IsV (.slice (some ⟨bH, oH, none⟩) nE ch)) v209 wx)
                subst e209
                have e210 : v210 = _ := (hd _ (.head _) (by kernel_rfl) : (IsV (.int .i64 (i : Int))) v210 wx)
                subst e210
                have e207 : v207 = _ := (hd _ (.tail _ (.tail _ (.tail _ (.head _)))) (by kernel_rfl) : (IsV (.bool false)) v207 wx)
                subst e207
                clear hd
                intro KK hK
                go_simp
                exact hK.out _ _ rfl (Below.refl _ _)
              simp only [Act.put, List.setIfInBounds_toArray, List.set_cons_zero, List.set_cons_succ]
              refine Tab.cons IsV.lasting (fun wx hx hd => ?_) (fun v212 => ?_)
              · skip
                have e211 : v211 = _ := (hd _ (.head _) (by kernel_rfl) : (IsV (.pointer (some ⟨bH, oH + i, none⟩))) v211 wx)
                subst e211
                have e207 : v207 = _ := (hd _ (.tail _ (.tail _ (.tail _ (.tail _ (.head _))))) (by kernel_rfl) : (IsV (.bool false)) v207 wx)
                subst e207
                clear hd
                intro KK hK
                have hcell0 := KH.out _ hx
                go_simp
                exact hK.out _ _ rfl (Below.refl _ _)
              simp only [Act.put, List.setIfInBounds_toArray, List.set_cons_zero, List.set_cons_succ]
              refine Tab.cons IsNum.lasting (fun wx hx hd => ?_) (fun v213 => ?_)
              · skip
                have e208 : v208 = _ := (hd _ (.tail _ (.tail _ (.tail _ (.tail _ (.head _))))) (by kernel_rfl) : (IsV (.agg #[])) v208 wx)
                subst e208
                have e212 : v212 = _ := (hd _ (.head _) (by kernel_rfl) : (IsV (.slice AH njE eh)) v212 wx)
                subst e212
                have e207 : v207 = _ := (hd _ (.tail _ (.tail _ (.tail _ (.tail _ (.tail _ (.head _)))))) (by kernel_rfl) : (IsV (.bool false)) v207 wx)
                subst e207
                clear hd
                intro KK hK
                go_simp
                refine (sum_nat _ 402 (by omega) _ _ _ rh (RHR.out.below hx.out) HSC.out).mono ?_
                rintro e w' ⟨A', n', c', rfl, h', hb', hn'⟩
                have h9 : Rd w' A' n' c' (limbs (rh.sum)) := by simpa only [val_limbs] using h'
                exact hK.out _ _ ⟨A', n', c', rfl, h9, hn'⟩ hb'
              simp only [Act.put, List.setIfInBounds_toArray, List.set_cons_zero, List.set_cons_succ]
              refine Tab.cons IsV.lasting (fun wx hx hd => ?_) (fun v214 => ?_)
              · skip
                have e207 : v207 = _ := (hd _ (.tail _ (.tail _ (.tail _ (.tail _ (.tail _ (.tail _ (.head _))))))) (by kernel_rfl) : (IsV (.bool false)) v207 wx)
                subst e207
                clear hd
                intro KK hK
                go_simp
                exact hK.out _ _ rfl (Below.refl _ _)
              simp only [Act.put, List.setIfInBounds_toArray, List.set_cons_zero, List.set_cons_succ]
              refine Tab.cons IsV.lasting (fun wx hx hd => ?_) (fun v215 => ?_)
              · skip
                have e207 : v207 = _ := (hd _ (.tail _ (.tail _ (.tail _ (.tail _ (.tail _ (.tail _ (.tail _ (.head _)))))))) (by kernel_rfl) : (IsV (.bool false)) v207 wx)
                subst e207
                clear hd
                intro KK hK
                go_simp
                exact hK.out _ _ rfl (Below.refl _ _)
              simp only [Act.put, List.setIfInBounds_toArray, List.set_cons_zero, List.set_cons_succ]
              refine Tab.cons IsV.lasting (fun wx hx hd => ?_) (fun v216 => ?_)
              · skip
                have e214 : v214 = _ := (hd _ (.tail _ (.head _)) (by kernel_rfl) : (IsV (.slice (some ⟨bF, oF, none⟩) nf cf)) v214 wx)
                subst e214
                have e215 : v215 = _ := (hd _ (.head _) (by kernel_rfl) : (IsV (.int .i64 (nE : Int))) v215 wx)
                subst e215
                have e207 : v207 = _ := (hd _ (.tail _ (.tail _ (.tail _ (.tail _ (.tail _ (.tail _ (.tail _ (.tail _ (.head _))))))))) (by kernel_rfl) : (IsV (.bool false)) v207 wx)
                subst e207
                clear hd
                intro KK hK
                go_simp
                exact hK.out _ _ rfl (Below.refl _ _)
              simp only [Act.put, List.setIfInBounds_toArray, List.set_cons_zero, List.set_cons_succ]
              refine Tab.cons IsV.lasting (fun wx hx hd => ?_) (fun v217 => ?_)
              · skip
                have e216 : v216 = _ := (hd _ (.head _) (by kernel_rfl) : (IsV (.pointer (some ⟨bF, oF + nE, none⟩))) v216 wx)
                subst e216
                have e207 : v207 = _ := (hd _ (.tail _ (.tail _ (.tail _ (.tail _ (.tail _ (.tail _ (.tail _ (.tail _ (.tail _ (.head _)))))))))) (by kernel_rfl) : (IsV (.bool false)) v207 wx)
                subst e207
                clear hd
                intro KK hK
                have hcell0 := K0.out _ hx
                go_simp
                exact hK.out _ _ rfl (Below.refl _ _)
              simp only [Act.put, List.setIfInBounds_toArray, List.set_cons_zero, List.set_cons_succ]
              refine Tab.cons IsV.lasting (fun wx hx hd => ?_) (fun v218 => ?_)
              · skip
                have e217 : v217 = _ := (hd _ (.head _) (by kernel_rfl) : (IsV (.slice (some ⟨b0, o0, none⟩) mn en)) v217 wx)
                subst e217
                have e207 : v207 = _ := (hd _ (.tail _ (.tail _ (.tail _ (.tail _ (.tail _ (.tail _ (.tail _ (.tail _ (.tail _ (.tail _ (.head _))))))))))) (by kernel_rfl) : (IsV (.bool false)) v207 wx)
                subst e207
                clear hd
                intro KK hK
                go_simp
                exact hK.out _ _ rfl (Below.refl _ _)
              simp only [Act.put, List.setIfInBounds_toArray, List.set_cons_zero, List.set_cons_succ]
              refine Tab.cons IsV.lasting (fun wx hx hd => ?_) (fun v219 => ?_)
              · skip
                have e218 : v218 = _ := (hd _ (.head _) (by kernel_rfl) : (IsV (.pointer (some ⟨b0, o0, none⟩))) v218 wx)
                subst e218
                have e207 : v207 = _ := (hd _ (.tail _ (.tail _ (.tail _ (.tail _ (.tail _ (.tail _ (.tail _ (.tail _ (.tail _ (.tail _ (.tail _ (.head _)))))))))))) (by kernel_rfl) : (IsV (.bool false)) v207 wx)
                subst e207
                clear hd
                intro KK hK
                have hcell0 := KS.out _ hx
                go_simp
                exact hK.out _ _ rfl (Below.refl _ _)
              simp only [Act.put, List.setIfInBounds_toArray, List.set_cons_zero, List.set_cons_succ]
              refine Tab.cons IsV.lasting (fun wx hx hd => ?_) (fun v220 => ?_)
              · skip
                obtain ⟨A213, n213, c213, rfl, h213, k213⟩ := (hd _ (.tail _ (.tail _ (.tail _ (.tail _ (.tail _ (.tail _ (.head _))))))) (by kernel_rfl) : (IsNum (rh.sum) 200) v213 wx)
                have e219 : v219 = _ := (hd _ (.head _) (by kernel_rfl) : (IsV (.slice AS nS cS)) v219 wx)
                subst e219
                have e207 : v207 = _ := (hd _ (.tail _ (.tail _ (.tail _ (.tail _ (.tail _ (.tail _ (.tail _ (.tail _ (.tail _ (.tail _ (.tail _ (.tail _ (.head _))))))))))))) (by kernel_rfl) : (IsV (.bool false)) v207 wx)
                subst e207
                clear hd
                intro KK hK
                go_simp
                refine (rsame_num_yes h213 (RS.out.below hx.out) HST.out).mono ?_
                rintro e w' ⟨rfl, hb'⟩
                exact hK.out _ _ rfl hb'
              simp only [Act.put, List.setIfInBounds_toArray, List.set_cons_zero, List.set_cons_succ]
              refine Tab.cons IsV.lasting (fun wx hx hd => ?_) (fun v221 => ?_)
              · skip
                have e220 : v220 = _ := (hd _ (.head _) (by kernel_rfl) : (IsV (.bool true)) v220 wx)
                subst e220
                have e207 : v207 = _ := (hd _ (.tail _ (.tail _ (.tail _ (.tail _ (.tail _ (.tail _ (.tail _ (.tail _ (.tail _ (.tail _ (.tail _ (.tail _ (.tail _ (.head _)))))))))))))) (by kernel_rfl) : (IsV (.bool false)) v207 wx)
                subst e207
                clear hd
                intro KK hK
                go_simp
                exact hK.out _ _ rfl (Below.refl _ _)
              simp only [Act.put, List.setIfInBounds_toArray, List.set_cons_zero, List.set_cons_succ]
              refine Tab.cons IsV.lasting (fun wx hx hd => ?_) (fun v222 => ?_)
              · skip
                have e207 : v207 = _ := (hd _ (.tail _ (.tail _ (.tail _ (.tail _ (.tail _ (.tail _ (.tail _ (.tail _ (.tail _ (.tail _ (.tail _ (.tail _ (.tail _ (.tail _ (.head _))))))))))))))) (by kernel_rfl) : (IsV (.bool false)) v207 wx)
                subst e207
                have e221 : v221 = _ := (hd _ (.head _) (by kernel_rfl) : (IsV (.bool false)) v221 wx)
                subst e221
                clear hd
                intro KK hK
                go_simp
                exact hK.out _ _ rfl (Below.refl _ _)
              simp only [Act.put, List.setIfInBounds_toArray, List.set_cons_zero, List.set_cons_succ]
              refine Tab.nil fun wx hx hd => ?_
              have e222 : v222 = _ := (hd _ (.head _) : (IsV (.bool false)) v222 wx)
              subst e222
              clear hd
              clear q1 q2 q3 q4
              have hB32 := hS1.trans (hx.out.mono hS1.size)
              clear hx
              go_wp2
              go_roundw
              case rel => exact ⟨i + 1, by omega, by go_num, hB32⟩
              case measure => simp [intOf]; omega
            · go_wp2
              go_ret
              exact ⟨rfl, below_step (hB6.trans (hS1.mono hB6.size)) hS⟩
    · obtain ⟨z, hz⟩ : ∃ z, fitsV Ws ee (V.map List.length) = z := ⟨_, rfl⟩
      rw [hz] at hf
      have HF := hide hz
      have hz0 : (z != 0) = true := by simpa using hf
      clear hz hf
      go_wp2_with fail
      refine wp_region_tab 7 223 [IsV (.pointer (some ⟨w.heap.size, 0, none⟩)), IsV (.agg #[.slice AW nW cW, .slice AE nE cE]), IsV (.pointer (some ⟨w.heap.size, 2, none⟩)), IsV (.slice A n c), IsI (natI (V.map List.length)), IsV (.int .i64 z), IsV (.bool true)] (From W) (by kernel_rfl) (by kernel_rfl) (by kernel_rfl) rfl From.lasts (From.drew (From.refl W)) ?_
      simp only [List.take_succ_cons, List.drop_succ_cons, List.take_nil, List.drop_nil]
      refine Tab.cons IsV.lasting (fun wx hx hd => ?_) (fun v21 => ?_)
      · skip
        clear hd
        intro KK hK
        go_simp
        exact hK.out _ _ rfl (Below.refl _ _)
      simp only [Act.put, List.setIfInBounds_toArray, List.set_cons_zero, List.set_cons_succ]
      refine Tab.cons IsV.lasting (fun wx hx hd => ?_) (fun v22 => ?_)
      · skip
        have e21 : v21 = _ := (hd _ (.head _) (by kernel_rfl) : (IsV (.pointer (some ⟨w.heap.size, 0, none⟩))) v21 wx)
        subst e21
        clear hd
        intro KK hK
        have hcell0 := C0.out _ hx
        have hcell1 := C1.out _ hx
        go_simp
        exact hK.out _ _ rfl (Below.refl _ _)
      simp only [Act.put, List.setIfInBounds_toArray, List.set_cons_zero, List.set_cons_succ]
      refine Tab.cons IsV.lasting (fun wx hx hd => ?_) (fun v23 => ?_)
      · skip
        clear hd
        intro KK hK
        go_simp
        exact hK.out _ _ rfl (Below.refl _ _)
      simp only [Act.put, List.setIfInBounds_toArray, List.set_cons_zero, List.set_cons_succ]
      refine Tab.cons IsV.lasting (fun wx hx hd => ?_) (fun v24 => ?_)
      · skip
        have e23 : v23 = _ := (hd _ (.head _) (by kernel_rfl) : (IsV (.pointer (some ⟨w.heap.size, 2, none⟩))) v23 wx)
        subst e23
        clear hd
        intro KK hK
        have hcell0 := C2.out _ hx
        go_simp
        exact hK.out _ _ rfl (Below.refl _ _)
      simp only [Act.put, List.setIfInBounds_toArray, List.set_cons_zero, List.set_cons_succ]
      refine Tab.cons IsI.lasting (fun wx hx hd => ?_) (fun v25 => ?_)
      · skip
        have e24 : v24 = _ := (hd _ (.head _) (by kernel_rfl) : (IsV (.slice A n c)) v24 wx)
        subst e24
        clear hd
        intro KK hK
        go_simp
        refine (counts_any _ A n c _ (h3.below (hB.trans (hx.out.mono hB.size))).lens hn).mono ?_
        rintro e w' ⟨A', n', c', rfl, h', hb'⟩
        exact hK.out _ _ ⟨A', n', c', rfl, h'⟩ hb'
      simp only [Act.put, List.setIfInBounds_toArray, List.set_cons_zero, List.set_cons_succ]
      refine Tab.cons IsV.lasting (fun wx hx hd => ?_) (fun v26 => ?_)
      · skip
        have e22 : v22 = _ := (hd _ (.tail _ (.tail _ (.tail _ (.head _)))) (by kernel_rfl) : (IsV (.agg #[.slice AW nW cW, .slice AE nE cE])) v22 wx)
        subst e22
        obtain ⟨A25, n25, c25, rfl, h25⟩ := (hd _ (.head _) (by kernel_rfl) : (IsI (natI (V.map List.length))) v25 wx)
        clear hd
        intro KK hK
        go_simp
        have hct := fits_any _ AW nW cW Ws AE nE cE ee (h1.below (hB.trans (hx.out.mono hB.size))) (h2.below (hB.trans (hx.out.mono hB.size))) _ _ _ _ h25
        rw [HF.out] at hct
        refine hct.mono ?_
        rintro e w' ⟨rfl, hb'⟩
        exact hK.out _ _ rfl hb'
      simp only [Act.put, List.setIfInBounds_toArray, List.set_cons_zero, List.set_cons_succ]
      refine Tab.cons IsV.lasting (fun wx hx hd => ?_) (fun v27 => ?_)
      · skip
        have e26 : v26 = _ := (hd _ (.head _) (by kernel_rfl) : (IsV (.int .i64 z)) v26 wx)
        subst e26
        clear hd
        intro KK hK
        go_simp
        exact hK.out _ _ rfl (Below.refl _ _)
      simp only [Act.put, List.setIfInBounds_toArray, List.set_cons_zero, List.set_cons_succ]
      refine Tab.nil fun wx hx hd => ?_
      have e27 : v27 = _ := (hd _ (.head _) : (IsV (.bool true)) v27 wx)
      subst e27
      clear hd
      replace hx := hx.out
      have hB9 := hB.trans (hx.mono hB.size)
      clear hB
      obtain ⟨hc0, hc1, hc2⟩ := HCELLS.out _ hB9
      skip
      go_wp2
      go_ret
      exact ⟨rfl, below_step hB9 hS⟩
end Go.Proofs.Ytjadgomakoaibaa
