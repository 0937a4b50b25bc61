/- The walk of Forward over nat. -/
import Derived.Test.YtjadgomakoaibaaRowsNat
import Derived.Test.YtjadgomakoaibaaPathK
namespace Go.Proofs.Ytjadgomakoaibaa
open Go.RowKit
theorem method_one_nat (k : Nat) (w : World) : (method (k + 1) 39 (.agg #[]) "One").run Try.prog w = .ok (69, .agg #[]) w := by kernel_rfl
theorem method_add_nat (k : Nat) (w : World) : (method (k + 1) 39 (.agg #[]) "Add").run Try.prog w = .ok (67, .agg #[]) w := by kernel_rfl
theorem method_mul_nat (k : Nat) (w : World) : (method (k + 1) 39 (.agg #[]) "Mul").run Try.prog w = .ok (68, .agg #[]) w := by kernel_rfl

set_option maxHeartbeats 1000000 in
theorem forward_nat_no (w : World) (AW : Option Addr) (nW cW : Nat) (W : List Int) (AE : Option Addr) (nE cE : Nat) (ee : List (List EdgeT)) (hW : RdI w AW nW cW W) (hE : RdEE w AE nE cE ee)
    (A : Option Addr) (n c : Nat) (lens : List Nat) (hL : RdLens w A n c lens) (hno : fitsV W ee lens ≠ 0) :
    Calls Try.prog 10 #[.agg #[], .agg #[.slice AW nW cW, .slice AE nE cE], .slice A n c] w (Makes (.tuple #[.slice none 0 0, .int .i64 (fitsV W ee lens)]) w) := by
  obtain ⟨W0, hW0, hS, hz, hc0, hc1⟩ := boxesT w 39 AW nW cW AE nE cE
  have hcall := hide (valued_nat W0 AW nW cW W AE nE cE ee (hW.below hS) (hE.below hS) A n c lens (hL.below hS))
  have HW := hide hW0
  have hd : (fitsV W ee lens != 0) = true := by simpa using hno
  clear hW0
  go_enter Try.func10, Try.ntmps10
  go_upto_region 1 with (fail)
  rw [← HW.out]
  go_wp2_with fail
  refine hcall.out.mono ?_
  rintro e w1 ⟨rfl, hb1⟩
  go_wp2
  go_ret2
  exact ⟨rfl, below_step hb1 hS⟩

set_option maxHeartbeats 4000000 in
set_option maxRecDepth 10000 in
theorem forward_nat (w : World) (AW : Option Addr) (nW cW : Nat) (Ws : List Int) (AE : Option Addr) (nE cE : Nat) (ee : List (List EdgeT)) (hW : RdI w AW nW cW Ws) (hE : RdEE w AE nE cE ee)
    (A : Option Addr) (n c : Nat) (V : List (List Nat)) (hV : RdR (natC 2) 0 w 1 A n c V) (hfit : fitsV Ws ee (V.map List.length) = 0)
    (hxb : ∀ i j, at2 0 V i j < 18446744073709551616) :
    Calls Try.prog 10 #[.agg #[], .agg #[.slice AW nW cW, .slice AE nE cE], .slice A n c] w (RetGridE (natC 200) 0 44 37 1 (fwdAll 0 upN (set2 (initR Ws (0 : Nat)) 0 0 1) 0 ee V) w) := by
  obtain ⟨FIN, hFIN⟩ : ∃ F, fwdAll 0 upN (set2 (initR Ws (0 : Nat)) 0 0 1) 0 ee V = F := ⟨_, rfl⟩
  rw [hFIN]
  obtain ⟨W0, hW0, hS, hz, hc0, hc1⟩ := boxesT w 39 AW nW cW AE nE cE
  obtain ⟨hshape, hlens⟩ := fits_zero hfit
  have hLay := layered_of_shape hshape
  have hnW : Ws.length = nW := hW.len
  have hnE : ee.length = nE := hE.len
  have hnV : V.length = n := hV.len
  have hlenV : V.length = ee.length := by have := congrArg List.length hlens; simpa using this
  have HFIN := hide hFIN
  clear hFIN
  have h1 := hW.below hS
  have h2 := hE.below hS
  have h3 := hV.below hS
  have hcall := valued_nat W0 AW nW cW Ws AE nE cE ee h1 h2 A n c _ h3.lens
  rw [hfit] at hcall
  have hl1 := hLay.len
  have hl2 := hLay.few
  have hrows := fun (w' : World) (hb : Below W0.heap.size W0 w') => rows_nat w' AW nW cW Ws AE nE cE (h1.below hb) hLay.wide (by omega)
  have HCALL := hide hcall
  have HROWS := hide hrows
  have HW := hide hW0
  have HC0 := hide hc0
  have HC1 := hide hc1
  have HZ := hide hz
  have HLay := hide hLay
  have HN := hide (And.intro hnW (And.intro hnE (And.intro hnV hlenV)))
  have hsz : nW = nE + 1 ∧ n = nE ∧ nE ≤ 64 := by omega
  have hLENS0 : ∀ i, i < nE → (V.getD i []).length = (ee.getD i []).length := fun i hi => by
    have h8 := congrArg (fun l : List Nat => l.getD i 0) hlens
    simpa [List.getD_eq_getElem?_getD, show i < V.length by omega, show i < ee.length by omega] using h8
  have HLENS := hide hLENS0
  clear hLENS0
  clear hW0 hcall hrows hc0 hc1 hz hLay hshape hlens hnW hnE hnV hlenV hl1 hl2 hW hE hV
  obtain ⟨hn1, hn2, hn3⟩ := hsz
  have HSZ := hide (And.intro hn1 (And.intro hn2 hn3))
  have hnW0 : 0 < nW := by omega
  have hr0W := hnW0
  have hr0i : ((0 : Nat) : Int) < (nW : Int) := by omega
  have hnW1 : nW ≤ 65 := by omega
  have hnE1 : nE ≤ 64 := hn3
  clear hn1 hn2 hn3
  go_enter Try.func10, Try.ntmps10
  go_upto_region 1 with (fail)
  rw [← HW.out]
  have hcb0 := HC0.out
  have hcb1 := HC1.out
  go_wp2_with fail
  refine HCALL.out.mono ?_
  rintro e w1 ⟨rfl, hb1⟩
  clear hcb0 hcb1
  have hcb0 := (hb1.cell (p := ⟨w.heap.size + 1, 0, none⟩) HZ.out).trans HC0.out
  have hcb1 := (hb1.cell (p := ⟨w.heap.size + 1, 1, none⟩) HZ.out).trans HC1.out
  go_wp2_with fail
  refine (HROWS.out _ hb1).mono ?_
  rintro e W ⟨G, n', cG, vs, rfl, hG, hb2⟩
  obtain rfl : nW = n' := by
    have h8 := hG.len
    rw [initR, List.length_map] at h8
    rw [← h8, HN.out.1]
  replace hG := hG.lower hb1.size
  have KB := hide (stays ((hb2.cell (p := ⟨w.heap.size + 1, 1, none⟩) (Nat.lt_of_lt_of_le HZ.out hb1.size)).trans hcb1))
  clear hcb0 hcb1 HCALL HROWS
  obtain ⟨g, rfl, hg1, hg2⟩ := hG.blk hnW0
  have hfit0 : RowsFit Ws (initR Ws (0 : Nat)) := RowsFit.init _ fun i hi => (HLay.out.wide i hi).1
  have hl0 : 0 < ((initR Ws (0 : Nat)).getD 0 []).length := by
    have h8 := hfit0.row 0 (by rw [HN.out.1]; exact hr0W)
    have h9 := (HLay.out.wide 0 (by rw [HN.out.1]; exact hr0W)).1
    omega
  obtain ⟨b0, m0, e0, hv0, hsl0, hb0a, hb0b, hme, hem, hlm⟩ := hG.row hr0W hl0
  obtain ⟨⟨x0, hx0, hr0⟩, hf0⟩ := hG.cell hr0W hv0 hl0
  have K0 := hide (stays hsl0)
  have K1 := hide (stays hx0)
  have K2 := hide (staysF hx0 hf0)
  have hm0 : (0 : Int) < (m0 : Int) := by omega
  have hnWi : (0 : Int) < (nW : Int) := by omega
  have hmO := @method_one_nat
  go_wp2_with fail
  refine wp_region_tab 6 86 [IsV (.slice (some ⟨g, 0, none⟩) nW cG), IsV (.pointer (some ⟨g, 0, none⟩)), IsV (.slice (some ⟨b0, 0, none⟩) m0 e0), IsV (.agg #[]), IsV (.iface 39 (.agg #[])), IsNum (1) 1] (From W) (by kernel_rfl) (by kernel_rfl) (by kernel_rfl) rfl From.lasts (From.drew (From.refl W)) ?_
  simp only [List.take_succ_cons, List.drop_succ_cons, List.take_zero, List.drop_zero]
  refine Tab.cons IsV.lasting (fun wx hx hd => ?_) (fun v23 => ?_)
  · skip
    clear hd
    intro KK hK
    go_simp
    exact hK.out _ _ rfl (Below.refl _ _)
  simp only [Act.put, List.setIfInBounds_toArray, List.set_cons_zero, List.set_cons_succ]
  refine Tab.cons IsV.lasting (fun wx hx hd => ?_) (fun v24 => ?_)
  · skip
    have e23 : v23 = _ := (hd _ (.head _) (by kernel_rfl) : (IsV (.slice (some ⟨g, 0, none⟩) nW cG)) v23 wx)
    subst e23
    clear hd
    intro KK hK
    go_simp
    exact hK.out _ _ rfl (Below.refl _ _)
  simp only [Act.put, List.setIfInBounds_toArray, List.set_cons_zero, List.set_cons_succ]
  refine Tab.cons IsV.lasting (fun wx hx hd => ?_) (fun v25 => ?_)
  · skip
    have e24 : v24 = _ := (hd _ (.head _) (by kernel_rfl) : (IsV (.pointer (some ⟨g, 0, none⟩))) v24 wx)
    subst e24
    clear hd
    intro KK hK
    have hcell0 := K0.out _ hx
    go_simp
    exact hK.out _ _ rfl (Below.refl _ _)
  simp only [Act.put, List.setIfInBounds_toArray, List.set_cons_zero, List.set_cons_succ]
  refine Tab.cons IsV.lasting (fun wx hx hd => ?_) (fun v26 => ?_)
  · skip
    clear hd
    intro KK hK
    go_simp
    exact hK.out _ _ rfl (Below.refl _ _)
  simp only [Act.put, List.setIfInBounds_toArray, List.set_cons_zero, List.set_cons_succ]
  refine Tab.cons IsV.lasting (fun wx hx hd => ?_) (fun v27 => ?_)
  · skip
    have e26 : v26 = _ := (hd _ (.head _) (by kernel_rfl) : (IsV (.agg #[])) v26 wx)
    subst e26
    clear hd
    intro KK hK
    go_simp
    exact hK.out _ _ rfl (Below.refl _ _)
  simp only [Act.put, List.setIfInBounds_toArray, List.set_cons_zero, List.set_cons_succ]
  refine Tab.cons IsNum.lasting (fun wx hx hd => ?_) (fun v28 => ?_)
  · skip
    have e27 : v27 = _ := (hd _ (.head _) (by kernel_rfl) : (IsV (.iface 39 (.agg #[]))) v27 wx)
    subst e27
    clear hd
    intro KK hK
    go_simp
    refine (counting_one _).mono ?_
    rintro e w' ⟨A', n', c', rfl, h', hb', hn'⟩
    exact hK.out _ _ ⟨A', n', c', rfl, by simpa only [val_limbs] using h', by omega⟩ hb'
  simp only [Act.put, List.setIfInBounds_toArray, List.set_cons_zero, List.set_cons_succ]
  refine Tab.nil fun wx hx hd => ?_
  have e25 : v25 = _ := (hd _ (.tail _ (.tail _ (.tail _ (.head _)))) : (IsV (.slice (some ⟨b0, 0, none⟩) m0 e0)) v25 wx)
  subst e25
  obtain ⟨A28, n28, c28, rfl, h28, k28⟩ := (hd _ (.head _) : (IsNum (1) 1) v28 wx)
  clear hd
  have hcell0 := K1.out _ hx
  have hfr0 := K2.out _ hx
  have hGs := (hG.below hx.out).store hr0W hv0 hl0 (x := 1) (u := .slice A28 n28 c28) ⟨_, _, _, rfl, h28, by omega⟩
  have hB1 : Below W0.heap.size W0 (wx.setCell ⟨b0, 0, none⟩ (.slice A28 n28 c28)) := ((hb1.trans (hb2.mono hb1.size)).trans (hx.out.mono (Nat.le_trans hb1.size hb2.size))).setCell hb0a _
  have hcb9 := (hB1.cell (p := ⟨w.heap.size + 1, 1, none⟩) HZ.out).trans HC1.out
  have hfit1 := hfit0.set2 0 0 (1 : Nat)
  clear hG hx hb1 hb2 K0 K1 K2 KB hsl0 hx0 hr0 hf0 hme hem hfit0 hb0a hb0b hg1 hg2 hnWi hm0 hmO
  have HF1 := hide hfit1
  clear hfit1
  have HINV0 := hide (BF.init (W := Ws))
  go_wp2_with fail
  clear hcell0 hfr0 hcb9 hr0i
  go_loopw [10, 11, 33] (fun _ _ iv wr => ∃ (i : Nat) (R : List (List Nat)), i ≤ nE ∧ iv = .int .i64 (i : Int) ∧ GridR (natC 200) 0 wr W0.heap.size 44 37 1 (some ⟨g, 0, none⟩) nW cG vs R ∧ RowsFit Ws R ∧ fwdAll 0 upN R i (ee.drop i) (V.drop i) = FIN ∧ BF i 0 R ∧ Below W0.heap.size W0 wr) (fun _ _ iv _ => nE - (intOf iv).toNat)
  case atStart => exact ⟨0, _, Nat.zero_le _, rfl, hGs, HF1.out, HFIN.out, HINV0.out, hB1⟩
  case round =>
    clear hGs HF1 HFIN HINV0 hB1 hv0 hl0 hlm hr0W
    obtain ⟨i, R, hi, rfl, hG, hfit1, hex, hinv, hS1⟩ := hrel
    have HX := hide hex
    have HFIT := hide hfit1
    clear hex hfit1
    by_cases hlt : i < nE
    ·
      obtain ⟨b, off, rfl, hb, hcells⟩ := h2.cells (by omega)
      obtain ⟨Aj, nj, cj, hcellE0, hrd⟩ := hcells i hlt
      have hcell := (hS1.cell (p := ⟨b, off + i, none⟩) hb).trans hcellE0
      have hcb := (hS1.cell (p := ⟨w.heap.size + 1, 1, none⟩) HZ.out).trans HC1.out
      have hnj63 := hrd.le63
      have HL := hide hrd.len
      obtain ⟨bV, oV, Ai, mi, ei, rfl, hbV, hcellV, hrdV⟩ := h3.at (show i < n by have := HSZ.out; omega)
      have HLV := hide hrdV.len
      have hmn : mi = nj := by
        have h8 := HLENS.out i hlt
        have h7 := hrdV.len
        have h6 := hrd.len
        omega
      obtain rfl : nj = mi := hmn.symm
      have hst := fwdAll_step (d := 0) (up := upN) (R := R) (ee := ee) (vv := V) (i := i) (by have := HN.out; omega) (by have := HN.out; have := HSZ.out; omega)
      rw [HX.out] at hst
      have HST := hide hst.symm
      have HOK := hide (fun j (hj : j < (ee.getD i []).length) => HLay.out.ok i j (by have := HN.out; omega) hj)
      have HFEW := hide (show (ee.getD i []).length ≤ 262144 from HLay.out.edges i (by have := HN.out; omega))
      clear hst hcells HX hmn
      have HXB := hide (fun j => hxb i j)
      have HXB2 : Hid (∀ j, (V.getD i []).getD j 0 < 18446744073709551616) := HXB.out
      clear HXB
      generalize ee.getD i [] = es at *
      generalize V.getD i [] = xs at *
      have HCV := hide hcellV
      obtain ⟨wo, rfl⟩ : ∃ wo : World, wo = wr := ⟨_, rfl⟩
      clear hcellV
      go_wp2_with fail
      clear hcb
      go_loopw [12, 13, 40] (fun _ _ jv wr => ∃ (j : Nat) (R : List (List Nat)), j ≤ nj ∧ jv = .int .i64 (j : Int) ∧ GridR (natC 200) 0 wr W0.heap.size 44 37 1 (some ⟨g, 0, none⟩) nW cG vs R ∧ RowsFit Ws R ∧ fwdAll 0 upN (sec (fwd1 0 upN i) R (es.drop j) (xs.drop j)) (i + 1) (ee.drop (i + 1)) (V.drop (i + 1)) = FIN ∧ BF i j R ∧ Below W0.heap.size W0 wr) (fun _ _ jv _ => nj - (intOf jv).toNat)
      case atStart => exact ⟨0, R, Nat.zero_le _, rfl, hG, HFIT.out, HST.out, hinv, hS1⟩
      case round =>
        clear hcell hS1 hG HFIT HST hinv
        obtain ⟨j, R, hj, rfl, hG, hfit2, hex2, hinv, hS2⟩ := hrel
        have HX2 := hide hex2
        have HFIT := hide hfit2
        clear hex2 hfit2
        by_cases hltj : j < nj
        · obtain ⟨bE, oE, rfl, hbE, hcE⟩ := (hrd.below hS2).cells (by omega)
          obtain ⟨hc0, hc1, hc2⟩ := hcE j hltj
          have hok := HOK.out j (by rw [HL.out]; exact hltj)
          have hst2 := sec_step (one := fwd1 0 upN i) (R := R) (es := es) (vs := xs) (j := j) (0, 0, 0) 0 (by rw [HL.out]; exact hltj) (by rw [HLV.out]; omega)
          rw [hst2] at HX2
          obtain ⟨bi, oi, vX, rfl, hbi, hcX, hvX⟩ := hrdV.at1 hltj
          obtain ⟨AX, nX, cX, rfl, hRX, hKX⟩ := hvX
          have RX0 := hide (hRX.below hS2)
          have HXB9 := HXB2.out j
          clear hst2 hcE
          generalize es.getD j (0, 0, 0) = ed at *
          generalize xs.getD j 0 = x at *
          obtain ⟨ef, el, et⟩ := ed
          simp only at hc0 hc1 hc2 hok
          obtain ⟨o1, o2, o3, o4⟩ := hok
          obtain ⟨fr, rfl⟩ : ∃ fr : Nat, ef = (fr : Int) := ⟨ef.toNat, by omega⟩
          obtain ⟨tt, rfl⟩ : ∃ tt : Nat, et = (tt : Int) := ⟨et.toNat, by omega⟩
          have hnw := HSZ.out.1
          have hfr := HFIT.out.row i (by rw [HN.out.1]; omega)
          have htt := HFIT.out.row (i + 1) (by rw [HN.out.1]; omega)
          have hiW : i < nW := by omega
          have hiW1 : i + 1 < nW := by omega
          have hfrl : fr < (R.getD i []).length := by omega
          have httl : tt < (R.getD (i + 1) []).length := by omega
          have HCV2 := hide ((hS2.cell (p := ⟨bV, oV + i, none⟩) hbV).trans HCV.out)
          have HCX2 := hide ((hS2.cell (p := ⟨bi, oi + j, none⟩) hbi).trans hcX)
          have HHI := hide (And.intro hiW (And.intro hiW1 (And.intro hfrl httl)))
          clear hfr htt o1 o2 o3 o4 hnw hiW hiW1 hfrl httl hcX
          go_wp2_with fail
          obtain ⟨W, hWd⟩ : ∃ W, W = wr.alloc (.cells #[.int .i64 (fr : Int), .int .i64 el, .int .i64 (tt : Int)] 73) := ⟨_, rfl⟩
          have hB2 : Below wr.heap.size wr W := by rw [hWd]; exact below_alloc wr _
          have KE := hide (stays (W := W) (b := wr.heap.size) (o := 0) (v := .int .i64 (fr : Int)) (by rw [hWd, cell_of_row _ _ _ _ _ _ (heap_alloc_new wr _)]; rfl))
          have KT := hide (stays (W := W) (b := wr.heap.size) (o := 2) (v := .int .i64 (tt : Int)) (by rw [hWd, cell_of_row _ _ _ _ _ _ (heap_alloc_new wr _)]; rfl))
          rw [← hWd]
          obtain ⟨hiW, hiW1, hfrl, httl⟩ := HHI.out
          have hGW := hG.below hB2
          obtain ⟨b1, m1, e1, hv1, hsl1, hb1a, hb1b, _, _, hlm1⟩ := hGW.row hiW1 (by omega)
          obtain ⟨b0, m0, e0, hv0, hsl0, hb0a, hb0b, _, _, hlm0⟩ := hGW.row hiW (by omega)
          obtain ⟨⟨vT, hxT, hrT⟩, hfT⟩ := hGW.cell hiW1 hv1 httl
          obtain ⟨⟨vF, hxF, hrF⟩, hfF⟩ := hGW.cell hiW hv0 hfrl
          obtain ⟨AL, nL, cL, rfl, hRT, hKT⟩ := hrT
          obtain ⟨AS, nS, cS, rfl, hRF, hKF⟩ := hrF
          have RX := hide (RX0.out.below hB2)
          have RL := hide hRT
          have RS := hide hRF
          have K1 := hide (stays hsl1)
          have K0 := hide (stays hsl0)
          have KLT := hide (stays hxT)
          have KLF := hide (stays hxF)
          have KF := hide (staysF hxT hfT)
          have KV := hide (stays (W := W) ((hB2.cell (p := ⟨bV, oV + i, none⟩) (Nat.lt_of_lt_of_le hbV hS2.size)).trans HCV2.out))
          have KX := hide (stays (W := W) ((hB2.cell (p := ⟨bi, oi + j, none⟩) (Nat.lt_of_lt_of_le hbi hS2.size)).trans HCX2.out))
          have HUP : Hid (fwd1 0 upN i R ((fr : Int), el, (tt : Int)) x = set2 R (i + 1) tt (upN (at2 0 R (i + 1) tt) (at2 0 R i fr) x)) := by
            simp [Hid, fwd1]
          have HS2 := hide (hS2.trans (hB2.mono hS2.size))
          have hbig := BF.step hinv (fr := fr) (tt := tt) HXB9 (by omega) (by have := HFEW.out; have := HL.out; omega)
          have HBIG := hide hbig
          clear hbig hinv
          have q1 : (fr : Int) < (m0 : Int) := by omega
          have q2 : (tt : Int) < (m1 : Int) := by omega
          have q3 : (i : Int) + 1 < (nW : Int) := by omega
          have q4 : (i : Int) < (nW : Int) := by omega
          have q5 : (j : Int) < (nj : Int) := by omega
          have q6 : (i : Int) < (n : Int) := by have := HSZ.out; omega
          have q7 : ((i : Int) + 1).toNat = i + 1 := by omega
          have q8 : (0 : Int) ≤ (i : Int) + 1 := by omega
          have HRG := hide (And.intro hv1 httl)
          clear hsl1 hsl0 hxT hfT hxF hfF hB2 hS2 hG hlm1 hlm0 hc0 hc1 hc2 hfrl httl hv0 hv1 hRT hRF hRX
          generalize hlv : at2 0 R (i + 1) tt = l at *
          generalize hsv : at2 0 R i fr = s at *
          have HE9 := hide (And.intro hlv hsv)
          clear hlv hsv
          have hmA := @method_add_nat
          have hmM := @method_mul_nat
          refine wp_region_tab 37 86 [IsV (.slice (some ⟨g, 0, none⟩) nW cG), IsV (.int .i64 (i : Int)), IsV (.int .i64 ((i : Int) + 1)), IsV (.pointer (some ⟨g, i + 1, none⟩)), IsV (.slice (some ⟨b1, 0, none⟩) m1 e1), IsV (.pointer (some ⟨wr.heap.size, 2, none⟩)), IsV (.int .i64 (tt : Int)), IsV (.agg #[]), IsV (.iface 39 (.agg #[])), IsV (.slice (some ⟨g, 0, none⟩) nW cG), IsV (.int .i64 (i : Int)), IsV (.int .i64 ((i : Int) + 1)), IsV (.pointer (some ⟨g, i + 1, none⟩)), IsV (.slice (some ⟨b1, 0, none⟩) m1 e1), IsV (.pointer (some ⟨wr.heap.size, 2, none⟩)), IsV (.int .i64 (tt : Int)), IsV (.pointer (some ⟨b1, tt, none⟩)), IsV (.slice AL nL cL), IsV (.agg #[]), IsV (.iface 39 (.agg #[])), IsV (.slice (some ⟨g, 0, none⟩) nW cG), IsV (.int .i64 (i : Int)), IsV (.pointer (some ⟨g, i, none⟩)), IsV (.slice (some ⟨b0, 0, none⟩) m0 e0), IsV (.pointer (some ⟨wr.heap.size, 0, none⟩)), IsV (.int .i64 (fr : Int)), IsV (.pointer (some ⟨b0, fr, none⟩)), IsV (.slice AS nS cS), IsV (.slice (some ⟨bV, oV, none⟩) n c), IsV (.int .i64 (i : Int)), IsV (.pointer (some ⟨bV, oV + i, none⟩)), IsV (.slice (some ⟨bi, oi, none⟩) nj ei), IsV (.int .i64 (j : Int)), IsV (.pointer (some ⟨bi, oi + j, none⟩)), IsV (.slice AX nX cX), IsNum (s * x) 202, IsNum (l + s * x) 403] (From W) (by kernel_rfl) (by kernel_rfl) (by kernel_rfl) rfl From.lasts (From.drew (From.refl W)) ?_
          simp only [List.take_succ_cons, List.drop_succ_cons, List.take_zero, List.drop_zero]
          refine Tab.cons IsV.lasting (fun wx hx hd => ?_) (fun v45 => ?_)
          · skip
            clear hd
            intro KK hK
            go_simp
            exact hK.out _ _ rfl (Below.refl _ _)
          simp only [Act.put, List.setIfInBounds_toArray, List.set_cons_zero, List.set_cons_succ]
          refine Tab.cons IsV.lasting (fun wx hx hd => ?_) (fun v46 => ?_)
          · skip
            clear hd
            intro KK hK
            go_simp
            exact hK.out _ _ rfl (Below.refl _ _)
          simp only [Act.put, List.setIfInBounds_toArray, List.set_cons_zero, List.set_cons_succ]
          refine Tab.cons IsV.lasting (fun wx hx hd => ?_) (fun v47 => ?_)
          · skip
            have e46 : v46 = _ := (hd _ (.head _) (by kernel_rfl) : (IsV (.int .i64 (i : Int))) v46 wx)
            subst e46
            clear hd
            intro KK hK
            go_simp
            rw [show IntKind.i64.wrap ((i : Int) + 1) = ((i : Int) + 1) from IntWalk.i64_in _ (by omega)]
            exact hK.out _ _ rfl (Below.refl _ _)
          simp only [Act.put, List.setIfInBounds_toArray, List.set_cons_zero, List.set_cons_succ]
          refine Tab.cons IsV.lasting (fun wx hx hd => ?_) (fun v48 => ?_)
          · skip
            have e45 : v45 = _ := (hd _ (.tail _ (.tail _ (.head _))) (by kernel_rfl) : (IsV (.slice (some ⟨g, 0, none⟩) nW cG)) v45 wx)
            subst e45
            have e47 : v47 = _ := (hd _ (.head _) (by kernel_rfl) : (IsV (.int .i64 ((i : Int) + 1))) v47 wx)
            subst e47
            clear hd
            intro KK hK
            go_simp
            exact hK.out _ _ rfl (Below.refl _ _)
          simp only [Act.put, List.setIfInBounds_toArray, List.set_cons_zero, List.set_cons_succ]
          refine Tab.cons IsV.lasting (fun wx hx hd => ?_) (fun v49 => ?_)
          · skip
            have e48 : v48 = _ := (hd _ (.head _) (by kernel_rfl) : (IsV (.pointer (some ⟨g, i + 1, none⟩))) v48 wx)
            subst e48
            clear hd
            intro KK hK
            have hcell0 := K1.out _ hx
            go_simp
            exact hK.out _ _ rfl (Below.refl _ _)
          simp only [Act.put, List.setIfInBounds_toArray, List.set_cons_zero, List.set_cons_succ]
          refine Tab.cons IsV.lasting (fun wx hx hd => ?_) (fun v50 => ?_)
          · skip
            clear hd
            intro KK hK
            go_simp
            exact hK.out _ _ rfl (Below.refl _ _)
          simp only [Act.put, List.setIfInBounds_toArray, List.set_cons_zero, List.set_cons_succ]
          refine Tab.cons IsV.lasting (fun wx hx hd => ?_) (fun v51 => ?_)
          · skip
            have e50 : v50 = _ := (hd _ (.head _) (by kernel_rfl) : (IsV (.pointer (some ⟨wr.heap.size, 2, none⟩))) v50 wx)
            subst e50
            clear hd
            intro KK hK
            have hcell0 := KT.out _ hx
            go_simp
            exact hK.out _ _ rfl (Below.refl _ _)
          simp only [Act.put, List.setIfInBounds_toArray, List.set_cons_zero, List.set_cons_succ]
          refine Tab.cons IsV.lasting (fun wx hx hd => ?_) (fun v52 => ?_)
          · skip
            clear hd
            intro KK hK
            go_simp
            exact hK.out _ _ rfl (Below.refl _ _)
          simp only [Act.put, List.setIfInBounds_toArray, List.set_cons_zero, List.set_cons_succ]
          refine Tab.cons IsV.lasting (fun wx hx hd => ?_) (fun v53 => ?_)
          · skip
            have e52 : v52 = _ := (hd _ (.head _) (by kernel_rfl) : (IsV (.agg #[])) v52 wx)
            subst e52
            clear hd
            intro KK hK
            go_simp
            exact hK.out _ _ rfl (Below.refl _ _)
          simp only [Act.put, List.setIfInBounds_toArray, List.set_cons_zero, List.set_cons_succ]
          refine Tab.cons IsV.lasting (fun wx hx hd => ?_) (fun v54 => ?_)
          · skip
            clear hd
            intro KK hK
            go_simp
            exact hK.out _ _ rfl (Below.refl _ _)
          simp only [Act.put, List.setIfInBounds_toArray, List.set_cons_zero, List.set_cons_succ]
          refine Tab.cons IsV.lasting (fun wx hx hd => ?_) (fun v55 => ?_)
          · skip
            clear hd
            intro KK hK
            go_simp
            exact hK.out _ _ rfl (Below.refl _ _)
          simp only [Act.put, List.setIfInBounds_toArray, List.set_cons_zero, List.set_cons_succ]
          refine Tab.cons IsV.lasting (fun wx hx hd => ?_) (fun v56 => ?_)
          · skip
            have e55 : v55 = _ := (hd _ (.head _) (by kernel_rfl) : (IsV (.int .i64 (i : Int))) v55 wx)
            subst e55
            clear hd
            intro KK hK
            go_simp
            rw [show IntKind.i64.wrap ((i : Int) + 1) = ((i : Int) + 1) from IntWalk.i64_in _ (by omega)]
            exact hK.out _ _ rfl (Below.refl _ _)
          simp only [Act.put, List.setIfInBounds_toArray, List.set_cons_zero, List.set_cons_succ]
          refine Tab.cons IsV.lasting (fun wx hx hd => ?_) (fun v57 => ?_)
          · skip
            have e54 : v54 = _ := (hd _ (.tail _ (.tail _ (.head _))) (by kernel_rfl) : (IsV (.slice (some ⟨g, 0, none⟩) nW cG)) v54 wx)
            subst e54
            have e56 : v56 = _ := (hd _ (.head _) (by kernel_rfl) : (IsV (.int .i64 ((i : Int) + 1))) v56 wx)
            subst e56
            clear hd
            intro KK hK
            go_simp
            exact hK.out _ _ rfl (Below.refl _ _)
          simp only [Act.put, List.setIfInBounds_toArray, List.set_cons_zero, List.set_cons_succ]
          refine Tab.cons IsV.lasting (fun wx hx hd => ?_) (fun v58 => ?_)
          · skip
            have e57 : v57 = _ := (hd _ (.head _) (by kernel_rfl) : (IsV (.pointer (some ⟨g, i + 1, none⟩))) v57 wx)
            subst e57
            clear hd
            intro KK hK
            have hcell0 := K1.out _ hx
            go_simp
            exact hK.out _ _ rfl (Below.refl _ _)
          simp only [Act.put, List.setIfInBounds_toArray, List.set_cons_zero, List.set_cons_succ]
          refine Tab.cons IsV.lasting (fun wx hx hd => ?_) (fun v59 => ?_)
          · skip
            clear hd
            intro KK hK
            go_simp
            exact hK.out _ _ rfl (Below.refl _ _)
          simp only [Act.put, List.setIfInBounds_toArray, List.set_cons_zero, List.set_cons_succ]
          refine Tab.cons IsV.lasting (fun wx hx hd => ?_) (fun v60 => ?_)
          · skip
            have e59 : v59 = _ := (hd _ (.head _) (by kernel_rfl) : (IsV (.pointer (some ⟨wr.heap.size, 2, none⟩))) v59 wx)
            subst e59
            clear hd
            intro KK hK
            have hcell0 := KT.out _ hx
            go_simp
            exact hK.out _ _ rfl (Below.refl _ _)
          simp only [Act.put, List.setIfInBounds_toArray, List.set_cons_zero, List.set_cons_succ]
          refine Tab.cons IsV.lasting (fun wx hx hd => ?_) (fun v61 => ?_)
          · skip
            have e58 : v58 = _ := (hd _ (.tail _ (.tail _ (.head _))) (by kernel_rfl) : (IsV (.slice (some ⟨b1, 0, none⟩) m1 e1)) v58 wx)
            subst e58
            have e60 : v60 = _ := (hd _ (.head _) (by kernel_rfl) : (IsV (.int .i64 (tt : Int))) v60 wx)
            subst e60
            clear hd
            intro KK hK
            go_simp
            exact hK.out _ _ rfl (Below.refl _ _)
          simp only [Act.put, List.setIfInBounds_toArray, List.set_cons_zero, List.set_cons_succ]
          refine Tab.cons IsV.lasting (fun wx hx hd => ?_) (fun v62 => ?_)
          · skip
            have e61 : v61 = _ := (hd _ (.head _) (by kernel_rfl) : (IsV (.pointer (some ⟨b1, tt, none⟩))) v61 wx)
            subst e61
            clear hd
            intro KK hK
            have hcell0 := KLT.out _ hx
            go_simp
            exact hK.out _ _ rfl (Below.refl _ _)
          simp only [Act.put, List.setIfInBounds_toArray, List.set_cons_zero, List.set_cons_succ]
          refine Tab.cons IsV.lasting (fun wx hx hd => ?_) (fun v63 => ?_)
          · skip
            clear hd
            intro KK hK
            go_simp
            exact hK.out _ _ rfl (Below.refl _ _)
          simp only [Act.put, List.setIfInBounds_toArray, List.set_cons_zero, List.set_cons_succ]
          refine Tab.cons IsV.lasting (fun wx hx hd => ?_) (fun v64 => ?_)
          · skip
            have e63 : v63 = _ := (hd _ (.head _) (by kernel_rfl) : (IsV (.agg #[])) v63 wx)
            subst e63
            clear hd
            intro KK hK
            go_simp
            exact hK.out _ _ rfl (Below.refl _ _)
          simp only [Act.put, List.setIfInBounds_toArray, List.set_cons_zero, List.set_cons_succ]
          refine Tab.cons IsV.lasting (fun wx hx hd => ?_) (fun v65 => ?_)
          · skip
            clear hd
            intro KK hK
            go_simp
            exact hK.out _ _ rfl (Below.refl _ _)
          simp only [Act.put, List.setIfInBounds_toArray, List.set_cons_zero, List.set_cons_succ]
          refine Tab.cons IsV.lasting (fun wx hx hd => ?_) (fun v66 => ?_)
          · skip
            clear hd
            intro KK hK
            go_simp
            exact hK.out _ _ rfl (Below.refl _ _)
          simp only [Act.put, List.setIfInBounds_toArray, List.set_cons_zero, List.set_cons_succ]
          refine Tab.cons IsV.lasting (fun wx hx hd => ?_) (fun v67 => ?_)
          · skip
            have e65 : v65 = _ := (hd _ (.tail _ (.head _)) (by kernel_rfl) : (IsV (.slice (some ⟨g, 0, none⟩) nW cG)) v65 wx)
            subst e65
            have e66 : v66 = _ := (hd _ (.head _) (by kernel_rfl) : (IsV (.int .i64 (i : Int))) v66 wx)
            subst e66
            clear hd
            intro KK hK
            go_simp
            exact hK.out _ _ rfl (Below.refl _ _)
          simp only [Act.put, List.setIfInBounds_toArray, List.set_cons_zero, List.set_cons_succ]
          refine Tab.cons IsV.lasting (fun wx hx hd => ?_) (fun v68 => ?_)
          · skip
            have e67 : v67 = _ := (hd _ (.head _) (by kernel_rfl) : (IsV (.pointer (some ⟨g, i, none⟩))) v67 wx)
            subst e67
            clear hd
            intro KK hK
            have hcell0 := K0.out _ hx
            go_simp
            exact hK.out _ _ rfl (Below.refl _ _)
          simp only [Act.put, List.setIfInBounds_toArray, List.set_cons_zero, List.set_cons_succ]
          refine Tab.cons IsV.lasting (fun wx hx hd => ?_) (fun v69 => ?_)
          · skip
            clear hd
            intro KK hK
            go_simp
            exact hK.out _ _ rfl (Below.refl _ _)
          simp only [Act.put, List.setIfInBounds_toArray, List.set_cons_zero, List.set_cons_succ]
          refine Tab.cons IsV.lasting (fun wx hx hd => ?_) (fun v70 => ?_)
          · skip
            have e69 : v69 = _ := (hd _ (.head _) (by kernel_rfl) : (IsV (.pointer (some ⟨wr.heap.size, 0, none⟩))) v69 wx)
            subst e69
            clear hd
            intro KK hK
            have hcell0 := KE.out _ hx
            go_simp
            exact hK.out _ _ rfl (Below.refl _ _)
          simp only [Act.put, List.setIfInBounds_toArray, List.set_cons_zero, List.set_cons_succ]
          refine Tab.cons IsV.lasting (fun wx hx hd => ?_) (fun v71 => ?_)
          · skip
            have e68 : v68 = _ := (hd _ (.tail _ (.tail _ (.head _))) (by kernel_rfl) : (IsV (.slice (some ⟨b0, 0, none⟩) m0 e0)) v68 wx)
            subst e68
            have e70 : v70 = _ := (hd _ (.head _) (by kernel_rfl) : (IsV (.int .i64 (fr : Int))) v70 wx)
            subst e70
            clear hd
            intro KK hK
            go_simp
            exact hK.out _ _ rfl (Below.refl _ _)
          simp only [Act.put, List.setIfInBounds_toArray, List.set_cons_zero, List.set_cons_succ]
          refine Tab.cons IsV.lasting (fun wx hx hd => ?_) (fun v72 => ?_)
          · skip
            have e71 : v71 = _ := (hd _ (.head _) (by kernel_rfl) : (IsV (.pointer (some ⟨b0, fr, none⟩))) v71 wx)
            subst e71
            clear hd
            intro KK hK
            have hcell0 := KLF.out _ hx
            go_simp
            exact hK.out _ _ rfl (Below.refl _ _)
          simp only [Act.put, List.setIfInBounds_toArray, List.set_cons_zero, List.set_cons_succ]
          refine Tab.cons IsV.lasting (fun wx hx hd => ?_) (fun v73 => ?_)
          · skip
            clear hd
            intro KK hK
            go_simp
            exact hK.out _ _ rfl (Below.refl _ _)
          simp only [Act.put, List.setIfInBounds_toArray, List.set_cons_zero, List.set_cons_succ]
          refine Tab.cons IsV.lasting (fun wx hx hd => ?_) (fun v74 => ?_)
          · skip
            clear hd
            intro KK hK
            go_simp
            exact hK.out _ _ rfl (Below.refl _ _)
          simp only [Act.put, List.setIfInBounds_toArray, List.set_cons_zero, List.set_cons_succ]
          refine Tab.cons IsV.lasting (fun wx hx hd => ?_) (fun v75 => ?_)
          · skip
            have e73 : v73 = _ := (hd _ (.tail _ (.head _)) (by kernel_rfl) : (IsV (.slice (some ⟨bV, oV, none⟩) n c)) v73 wx)
            subst e73
            have e74 : v74 = _ := (hd _ (.head _) (by kernel_rfl) : (IsV (.int .i64 (i : Int))) v74 wx)
            subst e74
            clear hd
            intro KK hK
            go_simp
            exact hK.out _ _ rfl (Below.refl _ _)
          simp only [Act.put, List.setIfInBounds_toArray, List.set_cons_zero, List.set_cons_succ]
          refine Tab.cons IsV.lasting (fun wx hx hd => ?_) (fun v76 => ?_)
          · skip
            have e75 : v75 = _ := (hd _ (.head _) (by kernel_rfl) : (IsV (.pointer (some ⟨bV, oV + i, none⟩))) v75 wx)
            subst e75
            clear hd
            intro KK hK
            have hcell0 := KV.out _ hx
            go_simp
            exact hK.out _ _ rfl (Below.refl _ _)
          simp only [Act.put, List.setIfInBounds_toArray, List.set_cons_zero, List.set_cons_succ]
          refine Tab.cons IsV.lasting (fun wx hx hd => ?_) (fun v77 => ?_)
          · skip
            clear hd
            intro KK hK
            go_simp
            exact hK.out _ _ rfl (Below.refl _ _)
          simp only [Act.put, List.setIfInBounds_toArray, List.set_cons_zero, List.set_cons_succ]
          refine Tab.cons IsV.lasting (fun wx hx hd => ?_) (fun v78 => ?_)
          · skip
            have e76 : v76 = _ := (hd _ (.tail _ (.head _)) (by kernel_rfl) : (IsV (.slice (some ⟨bi, oi, none⟩) nj ei)) v76 wx)
            subst e76
            have e77 : v77 = _ := (hd _ (.head _) (by kernel_rfl) : (IsV (.int .i64 (j : Int))) v77 wx)
            subst e77
            clear hd
            intro KK hK
            go_simp
            exact hK.out _ _ rfl (Below.refl _ _)
          simp only [Act.put, List.setIfInBounds_toArray, List.set_cons_zero, List.set_cons_succ]
          refine Tab.cons IsV.lasting (fun wx hx hd => ?_) (fun v79 => ?_)
          · skip
            have e78 : v78 = _ := (hd _ (.head _) (by kernel_rfl) : (IsV (.pointer (some ⟨bi, oi + j, none⟩))) v78 wx)
            subst e78
            clear hd
            intro KK hK
            have hcell0 := KX.out _ hx
            go_simp
            exact hK.out _ _ rfl (Below.refl _ _)
          simp only [Act.put, List.setIfInBounds_toArray, List.set_cons_zero, List.set_cons_succ]
          refine Tab.cons IsNum.lasting (fun wx hx hd => ?_) (fun v80 => ?_)
          · skip
            have e64 : v64 = _ := (hd _ (.tail _ (.tail _ (.tail _ (.tail _ (.tail _ (.tail _ (.tail _ (.tail _ (.tail _ (.tail _ (.tail _ (.tail _ (.tail _ (.tail _ (.tail _ (.head _)))))))))))))))) (by kernel_rfl) : (IsV (.iface 39 (.agg #[]))) v64 wx)
            subst e64
            have e72 : v72 = _ := (hd _ (.tail _ (.tail _ (.tail _ (.tail _ (.tail _ (.tail _ (.tail _ (.head _)))))))) (by kernel_rfl) : (IsV (.slice AS nS cS)) v72 wx)
            subst e72
            have e79 : v79 = _ := (hd _ (.head _) (by kernel_rfl) : (IsV (.slice AX nX cX)) v79 wx)
            subst e79
            clear hd
            intro KK hK
            go_simp
            refine (counting_mul (RS.out.below hx.out) (RX.out.below hx.out) (by omega) (by omega)).mono ?_
            rintro e w' ⟨A', n', c', rfl, h', hb', hn'⟩
            exact hK.out _ _ ⟨A', n', c', rfl, by simpa only [val_limbs] using h', by omega⟩ hb'
          simp only [Act.put, List.setIfInBounds_toArray, List.set_cons_zero, List.set_cons_succ]
          refine Tab.cons IsNum.lasting (fun wx hx hd => ?_) (fun v81 => ?_)
          · skip
            have e53 : v53 = _ := (hd _ (.tail _ (.tail _ (.tail _ (.tail _ (.tail _ (.tail _ (.tail _ (.tail _ (.tail _ (.tail _ (.tail _ (.tail _ (.tail _ (.tail _ (.tail _ (.tail _ (.tail _ (.tail _ (.tail _ (.tail _ (.tail _ (.tail _ (.tail _ (.tail _ (.tail _ (.tail _ (.tail _ (.head _)))))))))))))))))))))))))))) (by kernel_rfl) : (IsV (.iface 39 (.agg #[]))) v53 wx)
            subst e53
            have e62 : v62 = _ := (hd _ (.tail _ (.tail _ (.tail _ (.tail _ (.tail _ (.tail _ (.tail _ (.tail _ (.tail _ (.tail _ (.tail _ (.tail _ (.tail _ (.tail _ (.tail _ (.tail _ (.tail _ (.tail _ (.head _))))))))))))))))))) (by kernel_rfl) : (IsV (.slice AL nL cL)) v62 wx)
            subst e62
            obtain ⟨A80, n80, c80, rfl, h80, k80⟩ := (hd _ (.head _) (by kernel_rfl) : (IsNum (s * x) 202) v80 wx)
            clear hd
            intro KK hK
            go_simp
            refine (counting_add (RL.out.below hx.out) h80 (by omega) (by omega)).mono ?_
            rintro e w' ⟨A', n', c', rfl, h', hb', hn'⟩
            exact hK.out _ _ ⟨A', n', c', rfl, by simpa only [val_limbs] using h', by omega⟩ hb'
          simp only [Act.put, List.setIfInBounds_toArray, List.set_cons_zero, List.set_cons_succ]
          refine Tab.nil fun wx hx hd => ?_
          have e49 : v49 = _ := (hd _ (.tail _ (.tail _ (.tail _ (.tail _ (.tail _ (.tail _ (.tail _ (.tail _ (.tail _ (.tail _ (.tail _ (.tail _ (.tail _ (.tail _ (.tail _ (.tail _ (.tail _ (.tail _ (.tail _ (.tail _ (.tail _ (.tail _ (.tail _ (.tail _ (.tail _ (.tail _ (.tail _ (.tail _ (.tail _ (.tail _ (.tail _ (.tail _ (.head _))))))))))))))))))))))))))))))))) : (IsV (.slice (some ⟨b1, 0, none⟩) m1 e1)) v49 wx)
          subst e49
          have e51 : v51 = _ := (hd _ (.tail _ (.tail _ (.tail _ (.tail _ (.tail _ (.tail _ (.tail _ (.tail _ (.tail _ (.tail _ (.tail _ (.tail _ (.tail _ (.tail _ (.tail _ (.tail _ (.tail _ (.tail _ (.tail _ (.tail _ (.tail _ (.tail _ (.tail _ (.tail _ (.tail _ (.tail _ (.tail _ (.tail _ (.tail _ (.tail _ (.head _))))))))))))))))))))))))))))))) : (IsV (.int .i64 (tt : Int))) v51 wx)
          subst e51
          obtain ⟨A81, n81, c81, rfl, h81, k81⟩ := (hd _ (.head _) : (IsNum (l + s * x) 403) v81 wx)
          clear hd
          have hcellL := KLT.out _ hx
          have hfrL := KF.out _ hx
          have hGs := (hGW.below hx.out).store (i := (i + 1)) hiW1 HRG.out.1 (k := tt) HRG.out.2 (x := upN l s x) (u := .slice A81 n81 c81) ⟨_, _, _, rfl, h81, by rw [← h81.len]; exact length_limbs_cap HBIG.out.1⟩
          have hBs : Below W0.heap.size W0 (wx.setCell ⟨b1, tt, none⟩ (.slice A81 n81 c81)) := (HS2.out.trans (hx.out.mono HS2.out.size)).setCell hb1a _
          have hFs := HFIT.out.set2 (i + 1) tt (upN l s x)
          have hX3 := HX2.out
          rw [HUP.out] at hX3
          have HX3 := hide hX3
          have HFs := hide hFs
          clear hmA hmM q3 q4 q6 q7 q8 hX3 hFs
          go_wp2
          go_roundw
          case rel => exact ⟨j + 1, _, by omega, by go_num, hGs, HFs.out, HX3.out, HBIG.out.2, hBs⟩
          case measure => simp [intOf]; omega
        · obtain rfl : j = nj := by omega
          have hX3 := HX2.out
          rw [sec_end (by rw [HL.out]; exact Nat.le_refl _)] at hX3
          have HX3 := hide hX3
          clear hX3
          have hinv9 := BF.next hinv (by have := HFEW.out; have := HL.out; omega)
          go_wp2
          go_roundw
          case rel => exact ⟨i + 1, R, by omega, by go_num, hG, HFIT.out, HX3.out, hinv9, hS2⟩
          case measure => simp [intOf] <;> omega
    · obtain rfl : i = nE := by omega
      have hX3 := HX.out
      rw [fwdAll_end (by have := HN.out; omega)] at hX3
      subst hX3
      go_wp2
      go_ret2
      exact ⟨_, _, _, vs, rfl, hG.lower hS.size, below_step hS1 hS⟩

end Go.Proofs.Ytjadgomakoaibaa
