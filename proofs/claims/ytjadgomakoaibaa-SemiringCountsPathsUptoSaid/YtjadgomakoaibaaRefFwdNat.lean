/- The walk of the reference's ForwardNat. -/
import Derived.Test.YtjadgomakoaibaaNats
import Derived.Test.YtjadgomakoaibaaRefMul
import Derived.Test.YtjadgomakoaibaaRefAdd
namespace Go.Proofs.Ytjadgomakoaibaa
open Go.RowKit
set_option maxHeartbeats 4000000 in
set_option maxRecDepth 10000 in
theorem rforward_nat (w : World) (AW : Option Addr) (nW cW : Nat) (Ws : List Int) (AE : Option Addr) (nE cE : Nat) (ee : List (List EdgeT)) (hW : RdI w AW nW cW Ws) (hE : RdEE w AE nE cE ee)
    (A : Option Addr) (n c : Nat) (V : List (List Nat)) (hV : RdR (natC 2) 0 w 1 A n c V)
    (hxb : ∀ i j, at2 0 V i j < 18446744073709551616) (hfit : fitsV Ws ee (V.map List.length) = 0) :
    Calls Try.prog 13 #[.agg #[.slice AW nW cW, .slice AE nE cE], .slice A n c] w (RetGrid (natC 200) 0 44 37 1 (fwdAll 0 upN (set2 (initR Ws (0 : Nat)) 0 0 1) 0 ee V) w) := by
  obtain ⟨FIN, hFIN⟩ : ∃ F, fwdAll 0 upN (set2 (initR Ws (0 : Nat)) 0 0 1) 0 ee V = F := ⟨_, rfl⟩
  rw [hFIN]
  obtain ⟨W0, hW0, hS, hz, hc0, hc1⟩ := boxT w AW nW cW AE nE cE
  obtain ⟨hshape, hlens⟩ := fits_zero hfit
  have hLay := layered_of_shape hshape
  have hnW : Ws.length = nW := hW.len
  have hnE : ee.length = nE := hE.len
  have hnV : V.length = n := hV.len
  have hlenV : V.length = ee.length := by have := congrArg List.length hlens; simpa using this
  have HFIN := hide hFIN
  clear hFIN
  have h1 := hW.below hS
  have h2 := hE.below hS
  have h3 := hV.below hS
  have hl1 := hLay.len
  have hl2 := hLay.few
  have HW := hide hW0
  have HC0 := hide hc0
  have HC1 := hide hc1
  have HZ := hide hz
  have HLay := hide hLay
  have HN := hide (And.intro hnW (And.intro hnE (And.intro hnV hlenV)))
  have hsz : nW = nE + 1 ∧ n = nE ∧ nE ≤ 64 := by omega
  have hLENS0 : ∀ i, i < nE → (V.getD i []).length = (ee.getD i []).length := fun i hi => by
    have h8 := congrArg (fun l : List Nat => l.getD i 0) hlens
    simpa [List.getD_eq_getElem?_getD, show i < V.length by omega, show i < ee.length by omega] using h8
  have HLENS := hide hLENS0
  obtain ⟨i1, hi1, hz1, hz2, hz3⟩ := info_parts Try.infoRownat
  obtain ⟨i0, hy0, hy1, hy2, hy3⟩ := info_parts Try.infoNatV
  clear hLENS0
  clear hW0 hc0 hc1 hz hLay hshape hlens hnW hnE hnV hlenV hl1 hl2 hW hE hV
  obtain ⟨hn1, hn2, hn3⟩ := hsz
  have HSZ := hide (And.intro hn1 (And.intro hn2 hn3))
  have hnW0 : 0 < nW := by omega
  have hr0W := hnW0
  have hr0i : ((0 : Nat) : Int) < (nW : Int) := by omega
  have hnW1 : nW ≤ 65 := by omega
  have hnE1 : nE ≤ 64 := hn3
  clear hn1 hn2 hn3
  go_enter Try.func13, Try.ntmps13
  go_upto_region 1 with (fail)
  rw [← HW.out]
  have hcb0 := HC0.out
  go_wp2_with (at_make; refine wpList_make_row _ rfl _ _ _ 44 rfl i1 _ 1 24 Try.underlying31 hi1 hz1 hz2 hz3 _ _ _ _ nW rfl rfl rfl rfl (by omega) (by unfold maxLen; omega) ?_; intro w1 hown1 hb1)
  clear hcb0
  rw [madeCells_one (show (Value.slice none 0 0).cells = #[Value.slice none 0 0] from rfl)] at hown1
  have hgr := GridR.made (natC 200) 0 W0 W0.heap.size 44 37 1 nW hown1
  clear hown1
  go_loopw [6] (fun iv wr => ∃ (i : Nat) (vs : List Value), i ≤ nW ∧ iv = .int .i64 (i : Int) ∧ GridR (natC 200) 0 wr W0.heap.size 44 37 1 (some ⟨W0.heap.size, 0, none⟩) nW nW vs (rowsAt Ws (0 : Nat) i 0) ∧ Below W0.heap.size W0 wr) (fun iv _ => nW - (intOf iv).toNat)
  case atStart => exact ⟨0, _, Nat.zero_le _, rfl, by rw [rowsAt_zero, HN.out.1]; exact hgr, hb1⟩
  case round =>
    clear hgr hb1
    obtain ⟨i, vs, hi, rfl, hG, hS1⟩ := hrel
    have hcb0 := (hS1.cell (p := ⟨w.heap.size, 0, none⟩) HZ.out).trans HC0.out
    by_cases hlt : i < nW
    · obtain ⟨b, off, rfl, hb, hcell0⟩ := h1.at hlt
      have hcell := (hS1.cell (p := ⟨b, off + i, none⟩) hb).trans hcell0
      have hil : i < Ws.length := by rw [HN.out.1]; exact hlt
      obtain ⟨hp1, hp2⟩ := HLay.out.wide i hil
      obtain ⟨q, hq⟩ : ∃ q : Nat, Ws.getD i 0 = (q : Int) := ⟨(Ws.getD i 0).toNat, by omega⟩
      have HQ := hide hq
      have hqm : q ≤ 65536 := by omega
      rw [hq] at hcell
      clear hq hp1 hp2 hcell0
      obtain ⟨rows, g1, g2, g3, g4⟩ := hG.ex
      have hslot := g1.slot hlt
      have hfree := g1.slotFree i
      have hnl : ∃ A9 n9 c9, vs.getD i undef = .slice A9 n9 c9 := by
        rcases g1.form hlt with ⟨h9, _⟩ | ⟨_, _, _, h9, _⟩
        · exact ⟨_, _, _, h9⟩
        · exact ⟨_, _, _, h9⟩
      obtain ⟨A9, n9, c9, hsl9⟩ := hnl
      rw [hsl9] at hslot
      have HSL := hide (And.intro hslot hfree)
      have HLT := hide (World.block_lt_of_cell? wr _ hslot)
      have HGG := hide hG
      clear g1 g2 g3 g4 hslot hfree hsl9 hG
      obtain ⟨wo, rfl⟩ : ∃ wo : World, wo = wr := ⟨_, rfl⟩
      go_wp2_with (at_make; refine wpList_make_row _ rfl _ _ _ 37 rfl i0 _ 1 24 Try.underlying44 hy0 hy1 hy2 hy3 _ _ _ _ q rfl rfl rfl rfl (by omega) (by unfold maxLen; omega) ?_; intro w1 hown1 hb1; have hcs := (hb1.cell (p := ⟨W0.heap.size, i, none⟩) HLT.out).trans HSL.out.1; have hcf := (hb1.frozen (p := ⟨W0.heap.size, i, none⟩) HLT.out).trans HSL.out.2)
      rw [madeCells_one (show (Value.slice none 0 0).cells = #[Value.slice none 0 0] from rfl)] at hown1
      have hGp := HGG.out.putNew hlt hS1.size (l := List.replicate q (0 : Nat)) (by simp) hown1 hb1 (fun x v h9 => natC_set ((natC 200).last _ _ _ _ hb1 h9) hcs) (fun k hk => by
        rw [List.length_replicate] at hk
        simp only [List.getD_eq_getElem?_getD, List.getElem?_replicate, if_pos hk, Option.getD_some]
        exact ⟨none, 0, 0, rfl, by rw [limbs_zero]; exact Rd.nil _, by omega⟩)
      have hBp := (hS1.trans (hb1.mono hS1.size)).setCell (p := ⟨W0.heap.size, i, none⟩) (Nat.le_refl _) (.slice (some ⟨wo.heap.size, 0, none⟩) q q)
      have hR9 := rowsAt_set (W := Ws) (z := (0 : Nat)) hil
      rw [HQ.out] at hR9
      have hR8 : (rowsAt Ws (0 : Nat) i 0).set i (List.replicate q 0) = rowsAt Ws (0 : Nat) (i + 1) 0 := hR9
      rw [hR8] at hGp
      have HGP := hide (And.intro hGp hBp)
      clear hown1 hb1 hcell hcs hcf hcb0 hR9 hR8 hGp hBp
      go_wp2
      go_roundw
      case rel => exact ⟨i + 1, _, by omega, by go_num, HGP.out.1, HGP.out.2⟩
      case measure => simp [intOf]; omega
    · have hiN : i = nW := by omega
      have HR : Hid (rowsAt Ws (0 : Nat) i 0 = initR Ws (0 : Nat)) := by
        have := rowsAt_end Ws (0 : Nat)
        rw [HN.out.1] at this
        rw [hiN]
        exact this
      rw [HR.out] at hG
      clear hiN
      have hfit0 : RowsFit Ws (initR Ws (0 : Nat)) := RowsFit.init _ fun i hi => (HLay.out.wide i hi).1
      have hl0 : 0 < ((initR Ws (0 : Nat)).getD 0 []).length := by
        have h8 := hfit0.row 0 (by rw [HN.out.1]; exact hr0W)
        have h9 := (HLay.out.wide 0 (by rw [HN.out.1]; exact hr0W)).1
        omega
      obtain ⟨b0, m0, e0, hv0, hsl0, hb0a, hb0b, hme, hem, hlm⟩ := hG.row hr0W hl0
      obtain ⟨⟨x0, hx0, hr0⟩, hf0⟩ := hG.cell hr0W hv0 hl0
      obtain ⟨W, hWd⟩ : ∃ W : World, W = wr := ⟨_, rfl⟩
      subst hWd
      have K0 := hide (stays hsl0)
      have K1 := hide (stays hx0)
      have K2 := hide (staysF hx0 hf0)
      have hm0 : (0 : Int) < (m0 : Int) := by omega
      have hnWi : (0 : Int) < (nW : Int) := by omega
      go_wp2_with fail
      refine wp_region_tab 4 95 [IsV (.slice (some ⟨W0.heap.size, 0, none⟩) nW nW), IsV (.pointer (some ⟨W0.heap.size, 0, none⟩)), IsV (.slice (some ⟨b0, 0, none⟩) m0 e0), IsNum (1) 1] (From W) (by kernel_rfl) (by kernel_rfl) (by kernel_rfl) rfl From.lasts (From.drew (From.refl W)) ?_
      simp only [List.take_succ_cons, List.drop_succ_cons, List.take_zero, List.drop_zero]
      refine Tab.cons IsV.lasting (fun wx hx hd => ?_) (fun v30 => ?_)
      · skip
        clear hd
        intro KK hK
        go_simp
        exact hK.out _ _ rfl (Below.refl _ _)
      simp only [Act.put, List.setIfInBounds_toArray, List.set_cons_zero, List.set_cons_succ]
      refine Tab.cons IsV.lasting (fun wx hx hd => ?_) (fun v31 => ?_)
      · skip
        have e30 : v30 = _ := (hd _ (.head _) (by kernel_rfl) : (IsV (.slice (some ⟨W0.heap.size, 0, none⟩) nW nW)) v30 wx)
        subst e30
        clear hd
        intro KK hK
        go_simp
        exact hK.out _ _ rfl (Below.refl _ _)
      simp only [Act.put, List.setIfInBounds_toArray, List.set_cons_zero, List.set_cons_succ]
      refine Tab.cons IsV.lasting (fun wx hx hd => ?_) (fun v32 => ?_)
      · skip
        have e31 : v31 = _ := (hd _ (.head _) (by kernel_rfl) : (IsV (.pointer (some ⟨W0.heap.size, 0, none⟩))) v31 wx)
        subst e31
        clear hd
        intro KK hK
        have hcell0 := K0.out _ hx
        go_simp
        exact hK.out _ _ rfl (Below.refl _ _)
      simp only [Act.put, List.setIfInBounds_toArray, List.set_cons_zero, List.set_cons_succ]
      refine Tab.cons IsNum.lasting (fun wx hx hd => ?_) (fun v33 => ?_)
      · skip
        clear hd
        intro KK hK
        go_simp
        refine (rof_any 1 _ (by omega)).mono ?_
        rintro e w' ⟨A', n', c', rfl, h', hb'⟩
        have h9 : Rd w' A' n' c' (limbs (1)) := by simpa only [val_limbs] using h'
        exact hK.out _ _ ⟨A', n', c', rfl, h9, by rw [← h9.len]; exact length_limbs_le (by omega)⟩ hb'
      simp only [Act.put, List.setIfInBounds_toArray, List.set_cons_zero, List.set_cons_succ]
      refine Tab.nil fun wx hx hd => ?_
      have e32 : v32 = _ := (hd _ (.tail _ (.head _)) : (IsV (.slice (some ⟨b0, 0, none⟩) m0 e0)) v32 wx)
      subst e32
      obtain ⟨A33, n33, c33, rfl, h33, k33⟩ := (hd _ (.head _) : (IsNum (1) 1) v33 wx)
      clear hd
      have hcell0 := K1.out _ hx
      have hfr0 := K2.out _ hx
      have hGs := (hG.below hx.out).store hr0W hv0 hl0 (x := 1) (u := .slice A33 n33 c33) ⟨_, _, _, rfl, h33, by omega⟩
      have hBs : Below W0.heap.size W0 (wx.setCell ⟨b0, 0, none⟩ (.slice A33 n33 c33)) := (hS1.trans (hx.out.mono hS1.size)).setCell hb0a _
      have hfit1 := hfit0.set2 0 0 (1 : Nat)
      have HF1 := hide hfit1
      have hcb2 := (hBs.cell (p := ⟨w.heap.size, 1, none⟩) HZ.out).trans HC1.out
      have HGS := hide (And.intro hGs hBs)
      clear hGs hBs hfit1 hfit0 hl0 hv0 hr0 hme hem hlm hG HR hlt K0 K1 K2 hnWi hx0 hf0 hsl0
      go_wp2_with fail
      clear hcb0 hcb2 hm0 hr0i hcell0 hfr0 hx
      go_loopw [7] (fun iv wr => ∃ (i : Nat) (R : List (List Nat)), i ≤ nE ∧ iv = .int .i64 (i : Int) ∧ GridR (natC 200) 0 wr W0.heap.size 44 37 1 (some ⟨W0.heap.size, 0, none⟩) nW nW vs R ∧ RowsFit Ws R ∧ fwdAll 0 upN R i (ee.drop i) (V.drop i) = FIN ∧ BF i 0 R ∧ Below W0.heap.size W0 wr) (fun iv _ => nE - (intOf iv).toNat)
      case atStart => exact ⟨0, _, Nat.zero_le _, rfl, HGS.out.1, HF1.out, HFIN.out, BF.init, HGS.out.2⟩
      case round =>
      clear HF1 HFIN HGS hr0W hb0a hb0b hS1 hi
      obtain ⟨i, R, hi, rfl, hG, hfit1, hex, hinv, hS1⟩ := hrel
      have HX := hide hex
      have HFIT := hide hfit1
      have hcb1 := (hS1.cell (p := ⟨w.heap.size, 1, none⟩) HZ.out).trans HC1.out
      clear hex hfit1
      by_cases hlt : i < nE
      ·
        obtain ⟨b, off, rfl, hb, hcells⟩ := h2.cells (by omega)
        obtain ⟨Aj, nj, cj, hcellE0, hrd⟩ := hcells i hlt
        have hnj63 := hrd.le63
        have HL := hide hrd.len
        obtain ⟨bV, oV, Ai, mi, ei, rfl, hbV, hcellV, hrdV⟩ := h3.at (show i < n by have := HSZ.out; omega)
        have HLV := hide hrdV.len
        have hmn : mi = nj := by
          have h8 := HLENS.out i hlt
          have h7 := hrdV.len
          have h6 := hrd.len
          omega
        obtain rfl : nj = mi := hmn.symm
        have hst := fwdAll_step (d := 0) (up := upN) (R := R) (ee := ee) (vv := V) (i := i) (by have := HN.out; omega) (by have := HN.out; have := HSZ.out; omega)
        rw [HX.out] at hst
        have HST := hide hst.symm
        have HOK := hide (fun j (hj : j < (ee.getD i []).length) => HLay.out.ok i j (by have := HN.out; omega) hj)
        clear hst hcells HX hmn
        have HFEW := hide (show (ee.getD i []).length ≤ 262144 from HLay.out.edges i (by have := HN.out; omega))
        have HXB2 : Hid (∀ j, (V.getD i []).getD j 0 < 18446744073709551616) := fun j => hxb i j
        generalize ee.getD i [] = es at *
        generalize V.getD i [] = xs at *
        have HCV := hide hcellV
        have HCE := hide hcellE0
        obtain ⟨wo, rfl⟩ : ∃ wo : World, wo = wr := ⟨_, rfl⟩
        clear hcellV hcellE0
        have hiE : (i : Int) < (nE : Int) := by omega
        go_wp2_with fail
        clear hcb1
        go_loopw [8, 9] (fun jv _ wr => ∃ (j : Nat) (R : List (List Nat)), j ≤ nj ∧ jv = .int .i64 (j : Int) ∧ GridR (natC 200) 0 wr W0.heap.size 44 37 1 (some ⟨W0.heap.size, 0, none⟩) nW nW vs R ∧ RowsFit Ws R ∧ fwdAll 0 upN (sec (fwd1 0 upN i) R (es.drop j) (xs.drop j)) (i + 1) (ee.drop (i + 1)) (V.drop (i + 1)) = FIN ∧ BF i j R ∧ Below W0.heap.size W0 wr) (fun jv _ _ => nj - (intOf jv).toNat)
        case atStart => exact ⟨0, R, Nat.zero_le _, rfl, hG, HFIT.out, HST.out, hinv, hS1⟩
        case round =>
          clear hS1 hG HFIT HST hinv
          obtain ⟨j, R, hj, rfl, hG, hfit2, hex2, hinv, hS2⟩ := hrel
          have HX2 := hide hex2
          have HFIT := hide hfit2
          have hcb1 := (hS2.cell (p := ⟨w.heap.size, 1, none⟩) HZ.out).trans HC1.out
          have hcell := (hS2.cell (p := ⟨b, off + i, none⟩) hb).trans HCE.out
          clear hex2 hfit2
          by_cases hltj : j < nj
          · obtain ⟨bE, oE, rfl, hbE, hcE⟩ := (hrd.below hS2).cells (by omega)
            obtain ⟨hc0, hc1, hc2⟩ := hcE j hltj
            have hok := HOK.out j (by rw [HL.out]; exact hltj)
            have hst2 := sec_step (one := fwd1 0 upN i) (R := R) (es := es) (vs := xs) (j := j) (0, 0, 0) 0 (by rw [HL.out]; exact hltj) (by rw [HLV.out]; omega)
            rw [hst2] at HX2
            obtain ⟨bi, oi, vX, rfl, hbi, hcX, hvX⟩ := hrdV.at1 hltj
            obtain ⟨AX, nX, cX, rfl, hRX, hKX⟩ := hvX
            have RX0 := hide (hRX.below hS2)
            have HXB9 := HXB2.out j
            clear hst2 hcE
            generalize es.getD j (0, 0, 0) = ed at *
            generalize xs.getD j 0 = x at *
            obtain ⟨ef, el, et⟩ := ed
            simp only at hc0 hc1 hc2 hok
            obtain ⟨o1, o2, o3, o4⟩ := hok
            obtain ⟨fr, rfl⟩ : ∃ fr : Nat, ef = (fr : Int) := ⟨ef.toNat, by omega⟩
            obtain ⟨tt, rfl⟩ : ∃ tt : Nat, et = (tt : Int) := ⟨et.toNat, by omega⟩
            have hnw := HSZ.out.1
            have hfr := HFIT.out.row i (by rw [HN.out.1]; omega)
            have htt := HFIT.out.row (i + 1) (by rw [HN.out.1]; omega)
            have hiW : i < nW := by omega
            have hiW1 : i + 1 < nW := by omega
            have hfrl : fr < (R.getD i []).length := by omega
            have httl : tt < (R.getD (i + 1) []).length := by omega
            have HCV2 := hide ((hS2.cell (p := ⟨bV, oV + i, none⟩) hbV).trans HCV.out)
            have HCX2 := hide ((hS2.cell (p := ⟨bi, oi + j, none⟩) hbi).trans hcX)
            have HHI := hide (And.intro hiW (And.intro hiW1 (And.intro hfrl httl)))
            clear hfr htt o1 o2 o3 o4 hnw hiW hiW1 hfrl httl hcX
            go_wp2_with fail
            obtain ⟨W, hWd⟩ : ∃ W, W = wr.alloc (.cells #[.int .i64 (fr : Int), .int .i64 el, .int .i64 (tt : Int)] 73) := ⟨_, rfl⟩
            have hB2 : Below wr.heap.size wr W := by rw [hWd]; exact below_alloc wr _
            have KE := hide (stays (W := W) (b := wr.heap.size) (o := 0) (v := .int .i64 (fr : Int)) (by rw [hWd, cell_of_row _ _ _ _ _ _ (heap_alloc_new wr _)]; rfl))
            have KT := hide (stays (W := W) (b := wr.heap.size) (o := 2) (v := .int .i64 (tt : Int)) (by rw [hWd, cell_of_row _ _ _ _ _ _ (heap_alloc_new wr _)]; rfl))
            rw [← hWd]
            obtain ⟨hiW, hiW1, hfrl, httl⟩ := HHI.out
            have hGW := hG.below hB2
            obtain ⟨b1, m1, e1, hv1, hsl1, hb1a, hb1b, _, _, hlm1⟩ := hGW.row hiW1 (by omega)
            obtain ⟨b0, m0, e0, hv0, hsl0, hb0a, hb0b, _, _, hlm0⟩ := hGW.row hiW (by omega)
            obtain ⟨⟨vT, hxT, hrT⟩, hfT⟩ := hGW.cell hiW1 hv1 httl
            obtain ⟨⟨vF, hxF, hrF⟩, hfF⟩ := hGW.cell hiW hv0 hfrl
            obtain ⟨AL, nL, cL, rfl, hRT, hKT⟩ := hrT
            obtain ⟨AS, nS, cS, rfl, hRF, hKF⟩ := hrF
            have RX := hide (RX0.out.below hB2)
            have RL := hide hRT
            have RS := hide hRF
            have K1 := hide (stays hsl1)
            have K0 := hide (stays hsl0)
            have KLT := hide (stays hxT)
            have KLF := hide (stays hxF)
            have KF := hide (staysF hxT hfT)
            have KV := hide (stays (W := W) ((hB2.cell (p := ⟨bV, oV + i, none⟩) (Nat.lt_of_lt_of_le hbV hS2.size)).trans HCV2.out))
            have KX := hide (stays (W := W) ((hB2.cell (p := ⟨bi, oi + j, none⟩) (Nat.lt_of_lt_of_le hbi hS2.size)).trans HCX2.out))
            have HUP : Hid (fwd1 0 upN i R ((fr : Int), el, (tt : Int)) x = set2 R (i + 1) tt (upN (at2 0 R (i + 1) tt) (at2 0 R i fr) x)) := by
              simp [Hid, fwd1]
            have HS2 := hide (hS2.trans (hB2.mono hS2.size))
            have hbig := BF.step hinv (fr := fr) (tt := tt) HXB9 (by omega) (by have := HFEW.out; have := HL.out; omega)
            have HBIG := hide hbig
            clear hbig hinv
            have q1 : (fr : Int) < (m0 : Int) := by omega
            have q2 : (tt : Int) < (m1 : Int) := by omega
            have q3 : (i : Int) + 1 < (nW : Int) := by omega
            have q4 : (i : Int) < (nW : Int) := by omega
            have q5 : (j : Int) < (nj : Int) := by omega
            have q6 : (i : Int) < (n : Int) := by have := HSZ.out; omega
            have q7 : ((i : Int) + 1).toNat = i + 1 := by omega
            have q8 : (0 : Int) ≤ (i : Int) + 1 := by omega
            have HRG := hide (And.intro hv1 httl)
            clear hsl1 hsl0 hxT hfT hxF hfF hB2 hS2 hG hlm1 hlm0 hc0 hc1 hc2 hfrl httl hv0 hv1 hRT hRF hRX hcb1 hcell
            generalize hlv : at2 0 R (i + 1) tt = l at *
            generalize hsv : at2 0 R i fr = s at *
            have HE9 := hide (And.intro hlv hsv)
            clear hlv hsv
            refine wp_region_tab 33 95 [IsV (.slice (some ⟨W0.heap.size, 0, none⟩) nW nW), IsV (.int .i64 (i : Int)), IsV (.int .i64 ((i : Int) + 1)), IsV (.pointer (some ⟨W0.heap.size, i + 1, none⟩)), IsV (.slice (some ⟨b1, 0, none⟩) m1 e1), IsV (.pointer (some ⟨wr.heap.size, 2, none⟩)), IsV (.int .i64 (tt : Int)), IsV (.slice (some ⟨W0.heap.size, 0, none⟩) nW nW), IsV (.int .i64 (i : Int)), IsV (.int .i64 ((i : Int) + 1)), IsV (.pointer (some ⟨W0.heap.size, i + 1, none⟩)), IsV (.slice (some ⟨b1, 0, none⟩) m1 e1), IsV (.pointer (some ⟨wr.heap.size, 2, none⟩)), IsV (.int .i64 (tt : Int)), IsV (.pointer (some ⟨b1, tt, none⟩)), IsV (.slice AL nL cL), IsV (.slice (some ⟨W0.heap.size, 0, none⟩) nW nW), IsV (.int .i64 (i : Int)), IsV (.pointer (some ⟨W0.heap.size, i, none⟩)), IsV (.slice (some ⟨b0, 0, none⟩) m0 e0), IsV (.pointer (some ⟨wr.heap.size, 0, none⟩)), IsV (.int .i64 (fr : Int)), IsV (.pointer (some ⟨b0, fr, none⟩)), IsV (.slice AS nS cS), IsV (.slice (some ⟨bV, oV, none⟩) n c), IsV (.int .i64 (i : Int)), IsV (.pointer (some ⟨bV, oV + i, none⟩)), IsV (.slice (some ⟨bi, oi, none⟩) nj ei), IsV (.int .i64 (j : Int)), IsV (.pointer (some ⟨bi, oi + j, none⟩)), IsV (.slice AX nX cX), IsNum (s * x) 200, IsNum (l + s * x) 200] (From W) (by kernel_rfl) (by kernel_rfl) (by kernel_rfl) rfl From.lasts (From.drew (From.refl W)) ?_
            simp only [List.take_succ_cons, List.drop_succ_cons, List.take_zero, List.drop_zero]
            refine Tab.cons IsV.lasting (fun wx hx hd => ?_) (fun v60 => ?_)
            · skip
              clear hd
              intro KK hK
              go_simp
              exact hK.out _ _ rfl (Below.refl _ _)
            simp only [Act.put, List.setIfInBounds_toArray, List.set_cons_zero, List.set_cons_succ]
            refine Tab.cons IsV.lasting (fun wx hx hd => ?_) (fun v61 => ?_)
            · skip
              clear hd
              intro KK hK
              go_simp
              exact hK.out _ _ rfl (Below.refl _ _)
            simp only [Act.put, List.setIfInBounds_toArray, List.set_cons_zero, List.set_cons_succ]
            refine Tab.cons IsV.lasting (fun wx hx hd => ?_) (fun v62 => ?_)
            · skip
              have e61 : v61 = _ := (hd _ (.head _) (by kernel_rfl) : (IsV (.int .i64 (i : Int))) v61 wx)
              subst e61
              clear hd
              intro KK hK
              go_simp
              rw [show IntKind.i64.wrap ((i : Int) + 1) = ((i : Int) + 1) from IntWalk.i64_in _ (by omega)]
              exact hK.out _ _ rfl (Below.refl _ _)
            simp only [Act.put, List.setIfInBounds_toArray, List.set_cons_zero, List.set_cons_succ]
            refine Tab.cons IsV.lasting (fun wx hx hd => ?_) (fun v63 => ?_)
            · skip
              have e60 : v60 = _ := (hd _ (.tail _ (.tail _ (.head _))) (by kernel_rfl) : (IsV (.slice (some ⟨W0.heap.size, 0, none⟩) nW nW)) v60 wx)
              subst e60
              have e62 : v62 = _ := (hd _ (.head _) (by kernel_rfl) : (IsV (.int .i64 ((i : Int) + 1))) v62 wx)
              subst e62
              clear hd
              intro KK hK
              go_simp
              exact hK.out _ _ rfl (Below.refl _ _)
            simp only [Act.put, List.setIfInBounds_toArray, List.set_cons_zero, List.set_cons_succ]
            refine Tab.cons IsV.lasting (fun wx hx hd => ?_) (fun v64 => ?_)
            · skip
              have e63 : v63 = _ := (hd _ (.head _) (by kernel_rfl) : (IsV (.pointer (some ⟨W0.heap.size, i + 1, none⟩))) v63 wx)
              subst e63
              clear hd
              intro KK hK
              have hcell0 := K1.out _ hx
              go_simp
              exact hK.out _ _ rfl (Below.refl _ _)
            simp only [Act.put, List.setIfInBounds_toArray, List.set_cons_zero, List.set_cons_succ]
            refine Tab.cons IsV.lasting (fun wx hx hd => ?_) (fun v65 => ?_)
            · skip
              clear hd
              intro KK hK
              go_simp
              exact hK.out _ _ rfl (Below.refl _ _)
            simp only [Act.put, List.setIfInBounds_toArray, List.set_cons_zero, List.set_cons_succ]
            refine Tab.cons IsV.lasting (fun wx hx hd => ?_) (fun v66 => ?_)
            · skip
              have e65 : v65 = _ := (hd _ (.head _) (by kernel_rfl) : (IsV (.pointer (some ⟨wr.heap.size, 2, none⟩))) v65 wx)
              subst e65
              clear hd
              intro KK hK
              have hcell0 := KT.out _ hx
              go_simp
              exact hK.out _ _ rfl (Below.refl _ _)
            simp only [Act.put, List.setIfInBounds_toArray, List.set_cons_zero, List.set_cons_succ]
            refine Tab.cons IsV.lasting (fun wx hx hd => ?_) (fun v67 => ?_)
            · skip
              clear hd
              intro KK hK
              go_simp
              exact hK.out _ _ rfl (Below.refl _ _)
            simp only [Act.put, List.setIfInBounds_toArray, List.set_cons_zero, List.set_cons_succ]
            refine Tab.cons IsV.lasting (fun wx hx hd => ?_) (fun v68 => ?_)
            · skip
              clear hd
              intro KK hK
              go_simp
              exact hK.out _ _ rfl (Below.refl _ _)
            simp only [Act.put, List.setIfInBounds_toArray, List.set_cons_zero, List.set_cons_succ]
            refine Tab.cons IsV.lasting (fun wx hx hd => ?_) (fun v69 => ?_)
            · skip
              have e68 : v68 = _ := (hd _ (.head _) (by kernel_rfl) : (IsV (.int .i64 (i : Int))) v68 wx)
              subst e68
              clear hd
              intro KK hK
              go_simp
              rw [show IntKind.i64.wrap ((i : Int) + 1) = ((i : Int) + 1) from IntWalk.i64_in _ (by omega)]
              exact hK.out _ _ rfl (Below.refl _ _)
            simp only [Act.put, List.setIfInBounds_toArray, List.set_cons_zero, List.set_cons_succ]
            refine Tab.cons IsV.lasting (fun wx hx hd => ?_) (fun v70 => ?_)
            · skip
              have e67 : v67 = _ := (hd _ (.tail _ (.tail _ (.head _))) (by kernel_rfl) : (IsV (.slice (some ⟨W0.heap.size, 0, none⟩) nW nW)) v67 wx)
              subst e67
              have e69 : v69 = _ := (hd _ (.head _) (by kernel_rfl) : (IsV (.int .i64 ((i : Int) + 1))) v69 wx)
              subst e69
              clear hd
              intro KK hK
              go_simp
              exact hK.out _ _ rfl (Below.refl _ _)
            simp only [Act.put, List.setIfInBounds_toArray, List.set_cons_zero, List.set_cons_succ]
            refine Tab.cons IsV.lasting (fun wx hx hd => ?_) (fun v71 => ?_)
            · skip
              have e70 : v70 = _ := (hd _ (.head _) (by kernel_rfl) : (IsV (.pointer (some ⟨W0.heap.size, i + 1, none⟩))) v70 wx)
              subst e70
              clear hd
              intro KK hK
              have hcell0 := K1.out _ hx
              go_simp
              exact hK.out _ _ rfl (Below.refl _ _)
            simp only [Act.put, List.setIfInBounds_toArray, List.set_cons_zero, List.set_cons_succ]
            refine Tab.cons IsV.lasting (fun wx hx hd => ?_) (fun v72 => ?_)
            · skip
              clear hd
              intro KK hK
              go_simp
              exact hK.out _ _ rfl (Below.refl _ _)
            simp only [Act.put, List.setIfInBounds_toArray, List.set_cons_zero, List.set_cons_succ]
            refine Tab.cons IsV.lasting (fun wx hx hd => ?_) (fun v73 => ?_)
            · skip
              have e72 : v72 = _ := (hd _ (.head _) (by kernel_rfl) : (IsV (.pointer (some ⟨wr.heap.size, 2, none⟩))) v72 wx)
              subst e72
              clear hd
              intro KK hK
              have hcell0 := KT.out _ hx
              go_simp
              exact hK.out _ _ rfl (Below.refl _ _)
            simp only [Act.put, List.setIfInBounds_toArray, List.set_cons_zero, List.set_cons_succ]
            refine Tab.cons IsV.lasting (fun wx hx hd => ?_) (fun v74 => ?_)
            · skip
              have e71 : v71 = _ := (hd _ (.tail _ (.tail _ (.head _))) (by kernel_rfl) : (IsV (.slice (some ⟨b1, 0, none⟩) m1 e1)) v71 wx)
              subst e71
              have e73 : v73 = _ := (hd _ (.head _) (by kernel_rfl) : (IsV (.int .i64 (tt : Int))) v73 wx)
              subst e73
              clear hd
              intro KK hK
              go_simp
              exact hK.out _ _ rfl (Below.refl _ _)
            simp only [Act.put, List.setIfInBounds_toArray, List.set_cons_zero, List.set_cons_succ]
            refine Tab.cons IsV.lasting (fun wx hx hd => ?_) (fun v75 => ?_)
            · skip
              have e74 : v74 = _ := (hd _ (.head _) (by kernel_rfl) : (IsV (.pointer (some ⟨b1, tt, none⟩))) v74 wx)
              subst e74
              clear hd
              intro KK hK
              have hcell0 := KLT.out _ hx
              go_simp
              exact hK.out _ _ rfl (Below.refl _ _)
            simp only [Act.put, List.setIfInBounds_toArray, List.set_cons_zero, List.set_cons_succ]
            refine Tab.cons IsV.lasting (fun wx hx hd => ?_) (fun v76 => ?_)
            · skip
              clear hd
              intro KK hK
              go_simp
              exact hK.out _ _ rfl (Below.refl _ _)
            simp only [Act.put, List.setIfInBounds_toArray, List.set_cons_zero, List.set_cons_succ]
            refine Tab.cons IsV.lasting (fun wx hx hd => ?_) (fun v77 => ?_)
            · skip
              clear hd
              intro KK hK
              go_simp
              exact hK.out _ _ rfl (Below.refl _ _)
            simp only [Act.put, List.setIfInBounds_toArray, List.set_cons_zero, List.set_cons_succ]
            refine Tab.cons IsV.lasting (fun wx hx hd => ?_) (fun v78 => ?_)
            · skip
              have e76 : v76 = _ := (hd _ (.tail _ (.head _)) (by kernel_rfl) : (IsV (.slice (some ⟨W0.heap.size, 0, none⟩) nW nW)) v76 wx)
              subst e76
              have e77 : v77 = _ := (hd _ (.head _) (by kernel_rfl) : (IsV (.int .i64 (i : Int))) v77 wx)
              subst e77
              clear hd
              intro KK hK
              go_simp
              exact hK.out _ _ rfl (Below.refl _ _)
            simp only [Act.put, List.setIfInBounds_toArray, List.set_cons_zero, List.set_cons_succ]
            refine Tab.cons IsV.lasting (fun wx hx hd => ?_) (fun v79 => ?_)
            · skip
              have e78 : v78 = _ := (hd _ (.head _) (by kernel_rfl) : (IsV (.pointer (some ⟨W0.heap.size, i, none⟩))) v78 wx)
              subst e78
              clear hd
              intro KK hK
              have hcell0 := K0.out _ hx
              go_simp
              exact hK.out _ _ rfl (Below.refl _ _)
            simp only [Act.put, List.setIfInBounds_toArray, List.set_cons_zero, List.set_cons_succ]
            refine Tab.cons IsV.lasting (fun wx hx hd => ?_) (fun v80 => ?_)
            · skip
              clear hd
              intro KK hK
              go_simp
              exact hK.out _ _ rfl (Below.refl _ _)
            simp only [Act.put, List.setIfInBounds_toArray, List.set_cons_zero, List.set_cons_succ]
            refine Tab.cons IsV.lasting (fun wx hx hd => ?_) (fun v81 => ?_)
            · skip
              have e80 : v80 = _ := (hd _ (.head _) (by kernel_rfl) : (IsV (.pointer (some ⟨wr.heap.size, 0, none⟩))) v80 wx)
              subst e80
              clear hd
              intro KK hK
              have hcell0 := KE.out _ hx
              go_simp
              exact hK.out _ _ rfl (Below.refl _ _)
            simp only [Act.put, List.setIfInBounds_toArray, List.set_cons_zero, List.set_cons_succ]
            refine Tab.cons IsV.lasting (fun wx hx hd => ?_) (fun v82 => ?_)
            · skip
              have e79 : v79 = _ := (hd _ (.tail _ (.tail _ (.head _))) (by kernel_rfl) : (IsV (.slice (some ⟨b0, 0, none⟩) m0 e0)) v79 wx)
              subst e79
              have e81 : v81 = _ := (hd _ (.head _) (by kernel_rfl) : (IsV (.int .i64 (fr : Int))) v81 wx)
              subst e81
              clear hd
              intro KK hK
              go_simp
              exact hK.out _ _ rfl (Below.refl _ _)
            simp only [Act.put, List.setIfInBounds_toArray, List.set_cons_zero, List.set_cons_succ]
            refine Tab.cons IsV.lasting (fun wx hx hd => ?_) (fun v83 => ?_)
            · skip
              have e82 : v82 = _ := (hd _ (.head _) (by kernel_rfl) : (IsV (.pointer (some ⟨b0, fr, none⟩))) v82 wx)
              subst e82
              clear hd
              intro KK hK
              have hcell0 := KLF.out _ hx
              go_simp
              exact hK.out _ _ rfl (Below.refl _ _)
            simp only [Act.put, List.setIfInBounds_toArray, List.set_cons_zero, List.set_cons_succ]
            refine Tab.cons IsV.lasting (fun wx hx hd => ?_) (fun v84 => ?_)
            · skip
              clear hd
              intro KK hK
              go_simp
              exact hK.out _ _ rfl (Below.refl _ _)
            simp only [Act.put, List.setIfInBounds_toArray, List.set_cons_zero, List.set_cons_succ]
            refine Tab.cons IsV.lasting (fun wx hx hd => ?_) (fun v85 => ?_)
            · skip
              clear hd
              intro KK hK
              go_simp
              exact hK.out _ _ rfl (Below.refl _ _)
            simp only [Act.put, List.setIfInBounds_toArray, List.set_cons_zero, List.set_cons_succ]
            refine Tab.cons IsV.lasting (fun wx hx hd => ?_) (fun v86 => ?_)
            · skip
              have e84 : v84 = _ := (hd _ (.tail _ (.head _)) (by kernel_rfl) : (IsV (.slice (some ⟨bV, oV, none⟩) n c)) v84 wx)
              subst e84
              have e85 : v85 = _ := (hd _ (.head _) (by kernel_rfl) : (IsV (.int .i64 (i : Int))) v85 wx)
              subst e85
              clear hd
              intro KK hK
              go_simp
              exact hK.out _ _ rfl (Below.refl _ _)
            simp only [Act.put, List.setIfInBounds_toArray, List.set_cons_zero, List.set_cons_succ]
            refine Tab.cons IsV.lasting (fun wx hx hd => ?_) (fun v87 => ?_)
            · skip
              have e86 : v86 = _ := (hd _ (.head _) (by kernel_rfl) : (IsV (.pointer (some ⟨bV, oV + i, none⟩))) v86 wx)
              subst e86
              clear hd
              intro KK hK
              have hcell0 := KV.out _ hx
              go_simp
              exact hK.out _ _ rfl (Below.refl _ _)
            simp only [Act.put, List.setIfInBounds_toArray, List.set_cons_zero, List.set_cons_succ]
            refine Tab.cons IsV.lasting (fun wx hx hd => ?_) (fun v88 => ?_)
            · skip
              clear hd
              intro KK hK
              go_simp
              exact hK.out _ _ rfl (Below.refl _ _)
            simp only [Act.put, List.setIfInBounds_toArray, List.set_cons_zero, List.set_cons_succ]
            refine Tab.cons IsV.lasting (fun wx hx hd => ?_) (fun v89 => ?_)
            · skip
              have e87 : v87 = _ := (hd _ (.tail _ (.head _)) (by kernel_rfl) : (IsV (.slice (some ⟨bi, oi, none⟩) nj ei)) v87 wx)
              subst e87
              have e88 : v88 = _ := (hd _ (.head _) (by kernel_rfl) : (IsV (.int .i64 (j : Int))) v88 wx)
              subst e88
              clear hd
              intro KK hK
              go_simp
              exact hK.out _ _ rfl (Below.refl _ _)
            simp only [Act.put, List.setIfInBounds_toArray, List.set_cons_zero, List.set_cons_succ]
            refine Tab.cons IsV.lasting (fun wx hx hd => ?_) (fun v90 => ?_)
            · skip
              have e89 : v89 = _ := (hd _ (.head _) (by kernel_rfl) : (IsV (.pointer (some ⟨bi, oi + j, none⟩))) v89 wx)
              subst e89
              clear hd
              intro KK hK
              have hcell0 := KX.out _ hx
              go_simp
              exact hK.out _ _ rfl (Below.refl _ _)
            simp only [Act.put, List.setIfInBounds_toArray, List.set_cons_zero, List.set_cons_succ]
            refine Tab.cons IsNum.lasting (fun wx hx hd => ?_) (fun v91 => ?_)
            · skip
              have e83 : v83 = _ := (hd _ (.tail _ (.tail _ (.tail _ (.tail _ (.tail _ (.tail _ (.tail _ (.head _)))))))) (by kernel_rfl) : (IsV (.slice AS nS cS)) v83 wx)
              subst e83
              have e90 : v90 = _ := (hd _ (.head _) (by kernel_rfl) : (IsV (.slice AX nX cX)) v90 wx)
              subst e90
              clear hd
              intro KK hK
              go_simp
              refine (rmul_any _ _ _ _ _ _ _ _ _ (RS.out.below hx.out) (RX.out.below hx.out) (by omega)).mono ?_
              rintro e w' ⟨A', n', c', rfl, h', hb'⟩
              have h9 : Rd w' A' n' c' (limbs (s * x)) := by simpa only [val_limbs] using h'
              exact hK.out _ _ ⟨A', n', c', rfl, h9, by rw [← h9.len]; exact length_limbs_cap (Nat.lt_of_le_of_lt (Nat.le_add_left _ _) HBIG.out.1)⟩ hb'
            simp only [Act.put, List.setIfInBounds_toArray, List.set_cons_zero, List.set_cons_succ]
            refine Tab.cons IsNum.lasting (fun wx hx hd => ?_) (fun v92 => ?_)
            · skip
              have e75 : v75 = _ := (hd _ (.tail _ (.tail _ (.tail _ (.tail _ (.tail _ (.tail _ (.tail _ (.tail _ (.tail _ (.tail _ (.tail _ (.tail _ (.tail _ (.tail _ (.tail _ (.tail _ (.head _))))))))))))))))) (by kernel_rfl) : (IsV (.slice AL nL cL)) v75 wx)
              subst e75
              obtain ⟨A91, n91, c91, rfl, h91, k91⟩ := (hd _ (.head _) (by kernel_rfl) : (IsNum (s * x) 200) v91 wx)
              clear hd
              intro KK hK
              go_simp
              refine (radd_any _ _ _ _ _ _ _ _ _ (RL.out.below hx.out) h91 (by omega) (by omega)).mono ?_
              rintro e w' ⟨A', n', c', rfl, h', hb'⟩
              have h9 : Rd w' A' n' c' (limbs (l + s * x)) := by simpa only [val_limbs] using h'
              exact hK.out _ _ ⟨A', n', c', rfl, h9, by rw [← h9.len]; exact length_limbs_cap HBIG.out.1⟩ hb'
            simp only [Act.put, List.setIfInBounds_toArray, List.set_cons_zero, List.set_cons_succ]
            refine Tab.nil fun wx hx hd => ?_
            have e64 : v64 = _ := (hd _ (.tail _ (.tail _ (.tail _ (.tail _ (.tail _ (.tail _ (.tail _ (.tail _ (.tail _ (.tail _ (.tail _ (.tail _ (.tail _ (.tail _ (.tail _ (.tail _ (.tail _ (.tail _ (.tail _ (.tail _ (.tail _ (.tail _ (.tail _ (.tail _ (.tail _ (.tail _ (.tail _ (.tail _ (.head _))))))))))))))))))))))))))))) : (IsV (.slice (some ⟨b1, 0, none⟩) m1 e1)) v64 wx)
            subst e64
            have e66 : v66 = _ := (hd _ (.tail _ (.tail _ (.tail _ (.tail _ (.tail _ (.tail _ (.tail _ (.tail _ (.tail _ (.tail _ (.tail _ (.tail _ (.tail _ (.tail _ (.tail _ (.tail _ (.tail _ (.tail _ (.tail _ (.tail _ (.tail _ (.tail _ (.tail _ (.tail _ (.tail _ (.tail _ (.head _))))))))))))))))))))))))))) : (IsV (.int .i64 (tt : Int))) v66 wx)
            subst e66
            obtain ⟨A92, n92, c92, rfl, h92, k92⟩ := (hd _ (.head _) : (IsNum (l + s * x) 200) v92 wx)
            clear hd
            have hcellL := KLT.out _ hx
            have hfrL := KF.out _ hx
            have hGs := (hGW.below hx.out).store (i := (i + 1)) hiW1 HRG.out.1 (k := tt) HRG.out.2 (x := upN l s x) (u := .slice A92 n92 c92) ⟨_, _, _, rfl, h92, k92⟩
            have hBs : Below W0.heap.size W0 (wx.setCell ⟨b1, tt, none⟩ (.slice A92 n92 c92)) := (HS2.out.trans (hx.out.mono HS2.out.size)).setCell hb1a _
            have hFs := HFIT.out.set2 (i + 1) tt (upN l s x)
            have hX3 := HX2.out
            rw [HUP.out] at hX3
            have HX3 := hide hX3
            have HFs := hide hFs
            clear q3 q4 q6 q7 q8 hX3 hFs
            go_wp2
            go_roundw
            case rel => exact ⟨j + 1, _, by omega, by go_num, hGs, HFs.out, HX3.out, HBIG.out.2, hBs⟩
            case measure => simp [intOf]; omega
          · obtain rfl : j = nj := by omega
            have hX3 := HX2.out
            rw [sec_end (by rw [HL.out]; exact Nat.le_refl _)] at hX3
            have HX3 := hide hX3
            clear hX3
            have hinv9 := BF.next hinv (by have := HFEW.out; have := HL.out; omega)
            go_wp2
            go_roundw
            case rel => exact ⟨i + 1, R, by omega, by go_num, hG, HFIT.out, HX3.out, hinv9, hS2⟩
            case measure => simp [intOf] <;> omega
      · obtain rfl : i = nE := by omega
        have hX3 := HX.out
        rw [fwdAll_end (by have := HN.out; omega)] at hX3
        subst hX3
        go_wp2
        go_ret
        exact ⟨_, _, _, vs, rfl, hG.lower hS.size, below_step hS1 hS⟩
end Go.Proofs.Ytjadgomakoaibaa
