/- The walk of Through over the natural numbers. -/
import Derived.Test.YtjadgomakoaibaaBwdNat
import Derived.Test.YtjadgomakoaibaaNats
import Derived.Test.YtjadgomakoaibaaPure
import Derived.Test.YtjadgomakoaibaaMonoK
import Derived.Deep.RegionHeld3
namespace Go.Proofs.Ytjadgomakoaibaa
open Go.RowKit
/-- A slice of one number, just written out. -/
def IsS1 (N K : Nat) (v : Value) (w : World) : Prop := ∃ b A n c, v = .slice (some ⟨b, 0, none⟩) 1 1 ∧ w.cell? ⟨b, 0, none⟩ = some (.slice A n c) ∧ Rd w A n c (limbs N) ∧ n ≤ K
theorem IsS1.lasting {N K : Nat} : ∀ v w w', Below w.heap.size w w' → IsS1 N K v w → IsS1 N K v w' := fun _ _ _ hb ⟨b, A, n, c, h1, h2, h3, h4⟩ => ⟨b, A, n, c, h1, (hb.cell (p := ⟨b, 0, none⟩) (World.block_lt_of_cell? _ _ h2)).trans h2, h3.below hb, h4⟩
theorem RowsFit.sec {α β : Type} {W : List Int} {one : List (List α) → EdgeT → β → List (List α)} (hone : ∀ R e v, RowsFit W R → RowsFit W (one R e v)) : ∀ (es : List EdgeT) (vs : List β) (R : List (List α)), RowsFit W R → RowsFit W (sec one R es vs)
  | [], _, _, h => h
  | _ :: _, [], _, h => h
  | _ :: es, _ :: vs, _, h => RowsFit.sec hone es vs _ (hone _ _ _ h)
theorem RowsFit.fwdAll {α β : Type} {d : α} {up : α → α → β → α} {W : List Int} : ∀ (ee : List (List EdgeT)) (vv : List (List β)) (R : List (List α)) (i : Nat), RowsFit W R → RowsFit W (fwdAll d up R i ee vv)
  | [], _, _, _, h => h
  | _ :: _, [], _, _, h => h
  | _ :: ee, _ :: vv, _, _, h => RowsFit.fwdAll ee vv _ _ (RowsFit.sec (fun _ _ _ h => h.set2 _ _ _) _ _ _ h)
theorem RowsFit.bwdAll {α β : Type} {d : α} {up : α → α → β → α} {W : List Int} {ee : List (List EdgeT)} {vv : List (List β)} : ∀ (k : Nat) (R : List (List α)), RowsFit W R → RowsFit W (bwdAll d up ee vv k R)
  | 0, _, h => h
  | k + 1, _, h => RowsFit.bwdAll k _ (RowsFit.sec (fun _ _ _ h => h.set2 _ _ _) _ _ _ h)
/-- The sums over the paths through the edges of section i. -/
def thr (F B : List (List Nat)) (i : Nat) (es : List EdgeT) (xs : List Nat) : List Nat := List.zipWith (fun (e : EdgeT) x => at2 0 F i e.1.toNat * x * at2 0 B (i + 1) e.2.2.toNat) es xs
def thrAll (F B : List (List Nat)) (ee : List (List EdgeT)) (V : List (List Nat)) : List (List Nat) := (List.range ee.length).map fun i => thr F B i (ee.getD i []) (V.getD i [])
theorem thr_take {F B : List (List Nat)} {i j : Nat} {es : List EdgeT} {xs : List Nat} (h1 : j < es.length) (h2 : j < xs.length) :
    (thr F B i es xs).take (j + 1) = (thr F B i es xs).take j ++ [at2 0 F i (es.getD j (0, 0, 0)).1.toNat * xs.getD j 0 * at2 0 B (i + 1) (es.getD j (0, 0, 0)).2.2.toNat] := by
  have hl : j < (thr F B i es xs).length := by simp [thr]; omega
  rw [List.take_succ_eq_append_getElem hl]
  simp [thr, List.getD_eq_getElem?_getD, h1, h2]
theorem thr_len {F B : List (List Nat)} {i : Nat} {es : List EdgeT} {xs : List Nat} (h : es.length = xs.length) : (thr F B i es xs).length = es.length := by simp [thr, h]
def initF (Ws : List Int) : List (List Nat) := set2 (initR Ws 0) 0 0 1
def FF (Ws : List Int) (ee : List (List EdgeT)) (V : List (List Nat)) : List (List Nat) := fwdAll 0 upN (set2 (initR Ws (0 : Nat)) 0 0 1) 0 ee V
def FB (Ws : List Int) (ee : List (List EdgeT)) (V : List (List Nat)) : List (List Nat) := bwdAll 0 upN ee V ee.length (set2 (initR Ws (0 : Nat)) ee.length 0 1)

set_option maxHeartbeats 4000000 in
set_option maxRecDepth 10000 in
theorem through_nat (w : World) (AW : Option Addr) (nW cW : Nat) (Ws : List Int) (AE : Option Addr) (nE cE : Nat) (ee : List (List EdgeT)) (hW : RdI w AW nW cW Ws) (hE : RdEE w AE nE cE ee)
    (A : Option Addr) (n c : Nat) (V : List (List Nat)) (hV : RdR (natC 2) 0 w 1 A n c V) (hfit : fitsV Ws ee (V.map List.length) = 0)
    (hxb : ∀ i j, at2 0 V i j < 18446744073709551616) :
    Calls Try.prog 25 #[.agg #[], .agg #[.slice AW nW cW, .slice AE nE cE], .slice A n c] w (RetGridE (natC 402) 0 44 37 1 (thrAll (FF Ws ee V) (FB Ws ee V) ee V) w) := by
  obtain ⟨F0, hF0⟩ : ∃ F0, FF Ws ee V = F0 := ⟨_, rfl⟩
  obtain ⟨B0, hB0⟩ : ∃ B0, FB Ws ee V = B0 := ⟨_, rfl⟩
  rw [hF0, hB0]
  have HF0 := hide hF0
  have HB0 := hide hB0
  clear hF0 hB0
  obtain ⟨W0, hW0, hS, hz, hc0, hc1⟩ := boxesT w 39 AW nW cW AE nE cE
  have h1 := hW.below hS
  have h2 := hE.below hS
  have h3 := hV.below hS
  have hcall := forward_nat W0 AW nW cW Ws AE nE cE ee h1 h2 A n c V h3 hfit hxb
  obtain ⟨hshape, hlens⟩ := fits_zero hfit
  have hLay := layered_of_shape hshape
  have hnW : Ws.length = nW := hW.len
  have hnE : ee.length = nE := hE.len
  have hnV : V.length = n := hV.len
  have hlenV : V.length = ee.length := by have := congrArg List.length hlens; simpa using this
  have hcallB := fun (w' : World) (hb : Below W0.heap.size W0 w') => backward_nat w' AW nW cW Ws AE nE cE ee (h1.below hb) (h2.below hb) A n c V (h3.below hb) hfit hxb
  have HCALL := hide hcall
  have HCALLB := hide hcallB
  have HW := hide hW0
  have HC0 := hide hc0
  have HC1 := hide hc1
  have HZ := hide hz
  have HLay := hide hLay
  have hl1 := hLay.len
  have hl2 := hLay.few
  have HN := hide (And.intro hnW (And.intro hnE (And.intro hnV hlenV)))
  have hsz : nW = nE + 1 ∧ n = nE ∧ nE ≤ 64 := by omega
  have hLENS0 : ∀ i, i < nE → (V.getD i []).length = (ee.getD i []).length := fun i hi => by
    have h8 := congrArg (fun l : List Nat => l.getD i 0) hlens
    simpa [List.getD_eq_getElem?_getD, show i < V.length by omega, show i < ee.length by omega] using h8
  have HLENS := hide hLENS0
  have hf0 : RowsFit Ws (initR Ws (0 : Nat)) := RowsFit.init _ fun i hi => (hLay.wide i hi).1
  have hFF : RowsFit Ws (FF Ws ee V) := RowsFit.fwdAll _ _ _ _ (hf0.set2 _ _ _)
  have hFB : RowsFit Ws (FB Ws ee V) := RowsFit.bwdAll _ _ (hf0.set2 _ _ _)
  have HFF := hide hFF
  have HFB := hide hFB
  obtain ⟨i1, hi1, hz1, hz2, hz3⟩ := info_parts Try.infoRownat
  obtain ⟨i0, hy0, hy1, hy2, hy3⟩ := info_parts Try.infoNatV
  clear hLENS0 hW0 hcall hcallB hc0 hc1 hz hLay hshape hlens hnW hnE hnV hlenV hl1 hl2 hW hE hV hf0 hFF hFB
  obtain ⟨hn1, hn2, hn3⟩ := hsz
  have HSZ := hide (And.intro hn1 (And.intro hn2 hn3))
  have hnE1 : nE ≤ 64 := hn3
  clear hn1 hn2 hn3
  go_enter Try.func25, Try.ntmps25
  go_upto_region 1 with (fail)
  rw [← HW.out]
  have hcb0 := HC0.out
  have hcb1 := HC1.out
  go_wp2_with fail
  refine HCALL.out.mono ?_
  rintro e w1 ⟨Gf, nf, cf, vsf, rfl, hGf, hb1⟩
  clear hcb0 hcb1
  have hcb0 := (hb1.cell (p := ⟨w.heap.size + 1, 0, none⟩) HZ.out).trans HC0.out
  have hcb1 := (hb1.cell (p := ⟨w.heap.size + 1, 1, none⟩) HZ.out).trans HC1.out
  have hF1 := hGf.rd
  have HF1 : Hid (RdR (natC 200) 0 w1 1 Gf nf cf (FF Ws ee V)) := hF1
  clear hGf hF1
  go_wp2_with fail
  refine (HCALLB.out w1 hb1).mono ?_
  rintro e W2 ⟨Gb, nb, cb, vsb, rfl, hGb, hb2⟩
  have hF : RdR (natC 200) 0 W2 1 Gf nf cf (FF Ws ee V) := HF1.out.below hb2
  have hK : RdR (natC 200) 0 W2 1 Gb nb cb (FB Ws ee V) := hGb.rd
  have hBB := hb1.trans (hb2.mono hb1.size)
  have hSW := below_step hBB hS
  have h2' := h2.below hBB
  have h3' := h3.below hBB
  clear hcb0 hcb1 hGb hb1 hb2 HF1 HCALL HCALLB h1 h2 h3
  have hcb1 := (hBB.cell (p := ⟨w.heap.size + 1, 1, none⟩) HZ.out).trans HC1.out
  have HC2 := hide hcb1
  have HZ2 := hide (Nat.lt_of_lt_of_le HZ.out hBB.size)
  rw [HF0.out] at hF HFF
  rw [HB0.out] at hK HFB
  clear hBB
  have hnf : nf = nW := by have h8 := hF.len; have h9 := HFF.out.len; have := HN.out.1; omega
  have hnb : nb = nW := by have h8 := hK.len; have h9 := HFB.out.len; have := HN.out.1; omega
  have HNF := hide (And.intro hnf hnb)
  clear hnf hnb
  have hfn : thrAll F0 B0 ee V = (List.range nE).map fun i => thr F0 B0 i (ee.getD i []) (V.getD i []) := by unfold thrAll; rw [HN.out.2.1]
  have HFN := hide hfn
  clear hfn
  go_wp2_with (at_make; refine wpList_make_row _ rfl _ _ _ 44 rfl i1 _ 1 24 Try.underlying31 hi1 hz1 hz2 hz3 _ _ _ _ nE rfl rfl rfl rfl (by omega) (by unfold maxLen; omega) ?_; intro w3 hown1 hb3; have hc9 := (hb3.cell (p := ⟨w.heap.size + 1, 1, none⟩) HZ2.out).trans HC2.out)
  clear hc9 hcb1
  rw [madeCells_one (show (Value.slice none 0 0).cells = #[Value.slice none 0 0] from rfl)] at hown1
  have hgr := GridR.made (natC 402) 0 W2 W2.heap.size 44 37 1 nE hown1
  have hpv : PureV (List.replicate nE (Value.slice none 0 0)) nE w3 := fun i hi b hb => by
    rw [List.getD_eq_getElem?_getD, List.getElem?_replicate, if_pos hi] at hb
    cases hb
  clear hown1
  go_loopw [13, 14, 41] (fun _ _ iv wr => ∃ (i : Nat) (vs : List Value), i ≤ nE ∧ iv = .int .i64 (i : Int) ∧ GridR (natC 402) 0 wr W2.heap.size 44 37 1 (some ⟨W2.heap.size, 0, none⟩) nE nE vs (rowsBy (fun i => thr F0 B0 i (ee.getD i []) (V.getD i [])) nE i []) ∧ PureV vs nE wr ∧ Below W2.heap.size W2 wr) (fun _ _ iv _ => nE - (intOf iv).toNat)
  case atStart => exact ⟨0, _, Nat.zero_le _, rfl, by rw [rowsBy_zero]; exact hgr, hpv, hb3⟩
  case round =>
    clear hgr hpv hb3
    obtain ⟨i, vs, hi, rfl, hG, hPV, hS1⟩ := hrel
    by_cases hlt : i < nE
    · obtain ⟨b, off, rfl, hb, hcells⟩ := h2'.cells (by omega)
      obtain ⟨Aj, nj, cj, hcellE0, hrd⟩ := hcells i hlt
      have hcell := (hS1.cell (p := ⟨b, off + i, none⟩) hb).trans hcellE0
      have hnj63 := hrd.le63
      have HL := hide hrd.len
      obtain ⟨bV, oV, Ai, mi, ei, rfl, hbV, hcellV, hrdV⟩ := h3'.at (show i < n by have := HSZ.out; omega)
      have HLV := hide hrdV.len
      have hmn : mi = nj := by
        have h8 := HLENS.out i hlt
        have h7 := hrdV.len
        have h6 := hrd.len
        omega
      obtain rfl : nj = mi := hmn.symm
      have hnjf : nj ≤ 262144 := by
        have h8 := HLay.out.edges i (by have := HN.out; omega)
        have h6 := hrd.len
        omega
      have HOK := hide (fun j (hj : j < (ee.getD i []).length) => HLay.out.ok i j (by have := HN.out; omega) hj)
      have HNX : Hid (rowsBy (fun i => thr F0 B0 i (ee.getD i []) (V.getD i [])) nE i (thr F0 B0 i (ee.getD i []) (V.getD i [])) = rowsBy (fun i => thr F0 B0 i (ee.getD i []) (V.getD i [])) nE (i + 1) []) := rowsBy_next _ nE i
      obtain ⟨f, hf⟩ : ∃ f, (fun i => thr F0 B0 i (ee.getD i []) (V.getD i [])) = f := ⟨_, rfl⟩
      rw [hf] at hG HNX
      have HFD := hide hf
      clear hf hcells hmn
      generalize ee.getD i [] = es at *
      generalize V.getD i [] = xs at *
      have HCV := hide hcellV
      have HCE := hide hcellE0
      have hiV : i < n := by have := HSZ.out; omega
      have hiW : i < nf := by have := HSZ.out; have := HNF.out; omega
      have hiW1 : i + 1 < nb := by have := HSZ.out; have := HNF.out; omega
      have HI3 := hide (And.intro hiV (And.intro hiW hiW1))
      clear hiV hiW hiW1 hcellV hcellE0
      obtain ⟨wo, rfl⟩ : ∃ wo : World, wo = wr := ⟨_, rfl⟩
      go_wp2_with fail
      go_loopw [15, 16, 48] (fun _ _ jv wr => ∃ (j : Nat) (vs : List Value), j ≤ nj ∧ jv = .int .i64 (j : Int) ∧ GridR (natC 402) 0 wr W2.heap.size 44 37 1 (some ⟨W2.heap.size, 0, none⟩) nE nE vs (rowsBy f nE i ((thr F0 B0 i es xs).take j)) ∧ PureV vs nE wr ∧ Below W2.heap.size W2 wr) (fun _ _ jv _ => nj - (intOf jv).toNat)
      case atStart => exact ⟨0, vs, Nat.zero_le _, rfl, hG, hPV, hS1⟩
      case round =>
        clear hcell hS1 hG hPV
        obtain ⟨j, vs, hj, rfl, hG, hPV, hS2⟩ := hrel
        by_cases hltj : j < nj
        · obtain ⟨bE, oE, rfl, hbE, hcE⟩ := (hrd.below hS2).cells (by omega)
          obtain ⟨hc0, hc1, hc2⟩ := hcE j hltj
          have hok := HOK.out j (by rw [HL.out]; exact hltj)
          have HTK := hide (thr_take (F := F0) (B := B0) (i := i) (es := es) (xs := xs) (j := j) (by rw [HL.out]; exact hltj) (by rw [HLV.out]; omega))
          have hTL : ((thr F0 B0 i es xs).take j).length = j := by
            rw [List.length_take, thr_len (by rw [HL.out, HLV.out]; omega), HL.out]
            omega
          obtain ⟨bi, oi, vX, rfl, hbi, hcX, AX, nX, cX, rfl, hRX, hKX⟩ := hrdV.at1 hltj
          have HCX := hide hcX
          clear hcE hcX
          generalize es.getD j (0, 0, 0) = ed at *
          generalize xs.getD j 0 = x at *
          obtain ⟨ef, el, et⟩ := ed
          simp only at hc0 hc1 hc2 hok
          obtain ⟨o1, o2, o3, o4⟩ := hok
          obtain ⟨fr, rfl⟩ : ∃ fr : Nat, ef = (fr : Int) := ⟨ef.toNat, by omega⟩
          obtain ⟨tt, rfl⟩ : ∃ tt : Nat, et = (tt : Int) := ⟨et.toNat, by omega⟩
          have hfr := HFF.out.row i (by rw [HN.out.1]; have := HSZ.out; omega)
          have htt := HFB.out.row (i + 1) (by rw [HN.out.1]; have := HSZ.out; omega)
          obtain ⟨bF, oF, A0, m0, e0, hGfe, hbF, hcF, hrF⟩ := hF.at HI3.out.2.1
          obtain ⟨bK, oK, A1, m1, e1, hGbe, hbK, hcK, hrK⟩ := hK.at HI3.out.2.2
          have hfrm : fr < m0 := by have := hrF.len; omega
          have httm : tt < m1 := by have := hrK.len; omega
          obtain ⟨b0, o0, vS, rfl, hb0, hcS, AS, nS, cS, rfl, hRS, hKS⟩ := hrF.at1 hfrm
          obtain ⟨b1, o1', vY, rfl, hb1, hcY, AY, nY, cY, rfl, hRY, hKY⟩ := hrK.at1 httm
          subst hGfe hGbe
          have hrow9 : (rowsBy f nE i ((thr F0 B0 i es xs).take j)).getD i [] = (thr F0 B0 i es xs).take j := by rw [rowsBy_row hlt, if_neg (by omega), if_pos rfl]
          have HROW := hide hrow9
          obtain ⟨rows, g1, g2, g3, g4⟩ := hG.ex
          obtain ⟨m, hm⟩ := g1.inner i hlt
          obtain rfl : m = j := by
            have k1 := hm.1
            have k2 := g3 i hlt
            rw [hrow9, hTL] at k2
            omega
          have hslot := g1.slot hlt
          have HLZ : Hid (W2.heap.size < wr.heap.size) := World.block_lt_of_cell? wr _ hslot
          have HVB0 := fun k9 (hk9 : (vs.getD i undef).ownBlock = some k9) => (hm.lt k9 hk9).1
          have HGG := hide hG
          have HPV0 := hide hPV
          have HG10 := hide g1
          have HG340 := hide (And.intro g3 g4)
          have HM0 := hide hm
          have HSL := hide hslot
          have HC02 := hide (And.intro hc0 (And.intro hc1 hc2))
          have HHS := hide hS2
          clear hG hPV g1 g2 g3 g4 hm hrow9 hTL o1 o2 o3 o4 hslot hfr htt
          go_wp2_with fail
          obtain ⟨W, hWd⟩ : ∃ W, W = wr.alloc (.cells #[.int .i64 (fr : Int), .int .i64 el, .int .i64 (tt : Int)] 73) := ⟨_, rfl⟩
          have hB2 : Below wr.heap.size wr W := by rw [hWd]; exact below_alloc wr _
          have KE := hide (stays (W := W) (b := wr.heap.size) (o := 0) (v := .int .i64 (fr : Int)) (by rw [hWd, cell_of_row _ _ _ _ _ _ (heap_alloc_new wr _)]; rfl))
          have KT := hide (stays (W := W) (b := wr.heap.size) (o := 2) (v := .int .i64 (tt : Int)) (by rw [hWd, cell_of_row _ _ _ _ _ _ (heap_alloc_new wr _)]; rfl))
          rw [← hWd]
          have hS2 := HHS.out
          have hSW2 := hS2.trans (hB2.mono hS2.size)
          have KO := hide (stays (W := W) ((hB2.cell (p := ⟨W2.heap.size, i, none⟩) HLZ.out).trans HSL.out))
          have K0 := hide (stays (W := W) ((hSW2.cell (p := ⟨bF, oF + i, none⟩) hbF).trans hcF))
          have K1 := hide (stays (W := W) ((hSW2.cell (p := ⟨bK, oK + (i + 1), none⟩) hbK).trans hcK))
          have KS := hide (stays (W := W) ((hSW2.cell (p := ⟨b0, o0 + fr, none⟩) hb0).trans hcS))
          have KY := hide (stays (W := W) ((hSW2.cell (p := ⟨b1, o1' + tt, none⟩) hb1).trans hcY))
          have KV := hide (stays (W := W) ((hSW2.cell (p := ⟨bV, oV + i, none⟩) hbV).trans HCV.out))
          have KX := hide (stays (W := W) ((hSW2.cell (p := ⟨bi, oi + m, none⟩) hbi).trans HCX.out))
          have RX := hide (hRX.below hSW2)
          have RS := hide (hRS.below hSW2)
          have RY := hide (hRY.below hSW2)
          have HS2 := hide hSW2
          have HG1 := hide (HG10.out.below hB2)
          have HG := hide (HGG.out.below hB2)
          have HM := hide (ownsRow_keep HM0.out hB2 (Nat.le_refl _))
          have HPV : Hid (PureV vs nE W) := fun i9 hi9 b9 hb9 => by
            obtain ⟨m9, hm9⟩ := HG10.out.inner i9 hi9
            exact (HPV0.out i9 hi9 b9 hb9).keep hB2 (hm9.lt b9 hb9).2
          have HG34 : Hid ((∀ j, j < nE → (rows.getD j []).length = ((rowsBy f nE i ((thr F0 B0 i es xs).take m)).getD j []).length) ∧ ∀ j k, j < nE → k < ((rowsBy f nE i ((thr F0 B0 i es xs).take m)).getD j []).length → (natC 402).rel (at2 0 (rowsBy f nE i ((thr F0 B0 i es xs).take m)) j k) ((rows.getD j []).getD k undef) W) :=
            ⟨HG340.out.1, fun j9 k9 hj9 hk9 => (natC 402).last _ _ _ _ hB2 (HG340.out.2 j9 k9 hj9 hk9)⟩
          have HLZ9 := hide (Nat.lt_of_lt_of_le HLZ.out hB2.size)
          generalize hv0 : vs.getD i undef = v0 at *
          have HV0 := hide hv0
          have HVB := hide HVB0
          have HYS : Hid (at2 0 F0 i (Int.toNat (fr : Int)) * x * at2 0 B0 (i + 1) (Int.toNat (tt : Int)) = at2 0 F0 i fr * x * at2 0 B0 (i + 1) tt) := by simp [Hid]
          have hRS9 : (F0.getD i []).getD fr 0 = at2 0 F0 i fr := rfl
          have hRY9 : (B0.getD (i + 1) []).getD tt 0 = at2 0 B0 (i + 1) tt := rfl
          rw [hRS9] at RS
          rw [hRY9] at RY
          simp only [Int.toNat_natCast] at HTK
          have q1 : (fr : Int) < (m0 : Int) := by omega
          have q2 : (tt : Int) < (m1 : Int) := by omega
          have q3 : (i : Int) + 1 < (nb : Int) := by have := HI3.out; omega
          have q4 : (i : Int) < (nE : Int) := by omega
          have q9 : (i : Int) < (nf : Int) := by have := HI3.out; omega
          have q5 : (m : Int) < (nj : Int) := by omega
          have q6 : (i : Int) < (n : Int) := by have := HI3.out; omega
          have q7 : ((i : Int) + 1).toNat = i + 1 := by omega
          have q8 : (0 : Int) ≤ (i : Int) + 1 := by omega
          clear hv0 HVB0 hS2 hSW2 hB2 hcF hcK hcS hcY hc0 hc1 hc2 hRX hRS hRY hRS9 hRY9
          generalize at2 0 F0 i fr = s at *
          generalize at2 0 B0 (i + 1) tt = y at *
          have hmM := @method_mul_nat
          refine wp_region_noPanic (wp_region_tab2K 37 95 (.slice (some ⟨W2.heap.size, 0, none⟩) nE nE) (.int .i64 (i : Int)) rfl rfl [IsV (.slice (some ⟨W2.heap.size, 0, none⟩) nE nE), IsV (.int .i64 (i : Int)), IsV (.slice (some ⟨W2.heap.size, 0, none⟩) nE nE), IsV (.int .i64 (i : Int)), IsV (.pointer (some ⟨W2.heap.size, i, none⟩)), IsV (v0), IsV (.agg #[]), IsV (.iface 39 (.agg #[])), IsV (.agg #[]), IsV (.iface 39 (.agg #[])), IsV (.slice (some ⟨bF, oF, none⟩) nf cf), IsV (.int .i64 (i : Int)), IsV (.pointer (some ⟨bF, oF + i, none⟩)), IsV (.slice (some ⟨b0, o0, none⟩) m0 e0), IsV (.pointer (some ⟨wr.heap.size, 0, none⟩)), IsV (.int .i64 (fr : Int)), IsV (.pointer (some ⟨b0, o0 + fr, none⟩)), IsV (.slice AS nS cS), IsV (.slice (some ⟨bV, oV, none⟩) n c), IsV (.int .i64 (i : Int)), IsV (.pointer (some ⟨bV, oV + i, none⟩)), IsV (.slice (some ⟨bi, oi, none⟩) nj ei), IsV (.int .i64 (m : Int)), IsV (.pointer (some ⟨bi, oi + m, none⟩)), IsV (.slice AX nX cX), IsNum (s * x) 202, IsV (.slice (some ⟨bK, oK, none⟩) nb cb), IsV (.int .i64 (i : Int)), IsV (.int .i64 ((i : Int) + 1)), IsV (.pointer (some ⟨bK, oK + (i + 1), none⟩)), IsV (.slice (some ⟨b1, o1', none⟩) m1 e1), IsV (.pointer (some ⟨wr.heap.size, 2, none⟩)), IsV (.int .i64 (tt : Int)), IsV (.pointer (some ⟨b1, o1' + tt, none⟩)), IsV (.slice AY nY cY), IsNum (s * x * y) 402, IsS1 (s * x * y) 402] (From W) (by kernel_rfl) (by kernel_rfl) (by decide) (by kernel_rfl) (fun _ _ _ _ _ h9 => h9) (Or.inl ⟨by rfl, fun w9 => by go_simp⟩) (Or.inl ⟨by rfl, fun w9 => by go_simp⟩) (fun _ => rfl) (fun _ => rfl) (by kernel_rfl) rfl From.lasts (From.drew (From.refl W)) ?_)
          simp only [List.take_succ_cons, List.drop_succ_cons, List.take_zero, List.drop_zero]
          refine Tab.cons IsV.lasting (fun wx hx hd => ?_) (fun v53 => ?_)
          · skip
            clear hd
            intro KK hK
            go_simp
            exact hK.out _ _ rfl (Below.refl _ _)
          simp only [Act.put, List.setIfInBounds_toArray, List.set_cons_zero, List.set_cons_succ]
          refine Tab.cons IsV.lasting (fun wx hx hd => ?_) (fun v54 => ?_)
          · skip
            clear hd
            intro KK hK
            go_simp
            exact hK.out _ _ rfl (Below.refl _ _)
          simp only [Act.put, List.setIfInBounds_toArray, List.set_cons_zero, List.set_cons_succ]
          refine Tab.cons IsV.lasting (fun wx hx hd => ?_) (fun v55 => ?_)
          · skip
            clear hd
            intro KK hK
            go_simp
            exact hK.out _ _ rfl (Below.refl _ _)
          simp only [Act.put, List.setIfInBounds_toArray, List.set_cons_zero, List.set_cons_succ]
          refine Tab.cons IsV.lasting (fun wx hx hd => ?_) (fun v56 => ?_)
          · skip
            clear hd
            intro KK hK
            go_simp
            exact hK.out _ _ rfl (Below.refl _ _)
          simp only [Act.put, List.setIfInBounds_toArray, List.set_cons_zero, List.set_cons_succ]
          refine Tab.cons IsV.lasting (fun wx hx hd => ?_) (fun v57 => ?_)
          · skip
            have e55 : v55 = _ := (hd _ (.tail _ (.head _)) (by kernel_rfl) : (IsV (.slice (some ⟨W2.heap.size, 0, none⟩) nE nE)) v55 wx)
            subst e55
            have e56 : v56 = _ := (hd _ (.head _) (by kernel_rfl) : (IsV (.int .i64 (i : Int))) v56 wx)
            subst e56
            clear hd
            intro KK hK
            go_simp
            exact hK.out _ _ rfl (Below.refl _ _)
          simp only [Act.put, List.setIfInBounds_toArray, List.set_cons_zero, List.set_cons_succ]
          refine Tab.cons IsV.lasting (fun wx hx hd => ?_) (fun v58 => ?_)
          · skip
            have e57 : v57 = _ := (hd _ (.head _) (by kernel_rfl) : (IsV (.pointer (some ⟨W2.heap.size, i, none⟩))) v57 wx)
            subst e57
            clear hd
            intro KK hK
            have hcell0 := KO.out _ hx
            go_simp
            exact hK.out _ _ rfl (Below.refl _ _)
          simp only [Act.put, List.setIfInBounds_toArray, List.set_cons_zero, List.set_cons_succ]
          refine Tab.cons IsV.lasting (fun wx hx hd => ?_) (fun v59 => ?_)
          · skip
            clear hd
            intro KK hK
            go_simp
            exact hK.out _ _ rfl (Below.refl _ _)
          simp only [Act.put, List.setIfInBounds_toArray, List.set_cons_zero, List.set_cons_succ]
          refine Tab.cons IsV.lasting (fun wx hx hd => ?_) (fun v60 => ?_)
          · skip
            have e59 : v59 = _ := (hd _ (.head _) (by kernel_rfl) : (IsV (.agg #[])) v59 wx)
            subst e59
            clear hd
            intro KK hK
            go_simp
            exact hK.out _ _ rfl (Below.refl _ _)
          simp only [Act.put, List.setIfInBounds_toArray, List.set_cons_zero, List.set_cons_succ]
          refine Tab.cons IsV.lasting (fun wx hx hd => ?_) (fun v61 => ?_)
          · skip
            clear hd
            intro KK hK
            go_simp
            exact hK.out _ _ rfl (Below.refl _ _)
          simp only [Act.put, List.setIfInBounds_toArray, List.set_cons_zero, List.set_cons_succ]
          refine Tab.cons IsV.lasting (fun wx hx hd => ?_) (fun v62 => ?_)
          · skip
            have e61 : v61 = _ := (hd _ (.head _) (by kernel_rfl) : (IsV (.agg #[])) v61 wx)
            subst e61
            clear hd
            intro KK hK
            go_simp
            exact hK.out _ _ rfl (Below.refl _ _)
          simp only [Act.put, List.setIfInBounds_toArray, List.set_cons_zero, List.set_cons_succ]
          refine Tab.cons IsV.lasting (fun wx hx hd => ?_) (fun v63 => ?_)
          · skip
            clear hd
            intro KK hK
            go_simp
            exact hK.out _ _ rfl (Below.refl _ _)
          simp only [Act.put, List.setIfInBounds_toArray, List.set_cons_zero, List.set_cons_succ]
          refine Tab.cons IsV.lasting (fun wx hx hd => ?_) (fun v64 => ?_)
          · skip
            clear hd
            intro KK hK
            go_simp
            exact hK.out _ _ rfl (Below.refl _ _)
          simp only [Act.put, List.setIfInBounds_toArray, List.set_cons_zero, List.set_cons_succ]
          refine Tab.cons IsV.lasting (fun wx hx hd => ?_) (fun v65 => ?_)
          · skip
            have e63 : v63 = _ := (hd _ (.tail _ (.head _)) (by kernel_rfl) : (IsV (.slice (some ⟨bF, oF, none⟩) nf cf)) v63 wx)
            subst e63
            have e64 : v64 = _ := (hd _ (.head _) (by kernel_rfl) : (IsV (.int .i64 (i : Int))) v64 wx)
            subst e64
            clear hd
            intro KK hK
            go_simp
            exact hK.out _ _ rfl (Below.refl _ _)
          simp only [Act.put, List.setIfInBounds_toArray, List.set_cons_zero, List.set_cons_succ]
          refine Tab.cons IsV.lasting (fun wx hx hd => ?_) (fun v66 => ?_)
          · skip
            have e65 : v65 = _ := (hd _ (.head _) (by kernel_rfl) : (IsV (.pointer (some ⟨bF, oF + i, none⟩))) v65 wx)
            subst e65
            clear hd
            intro KK hK
            have hcell0 := K0.out _ hx
            go_simp
            exact hK.out _ _ rfl (Below.refl _ _)
          simp only [Act.put, List.setIfInBounds_toArray, List.set_cons_zero, List.set_cons_succ]
          refine Tab.cons IsV.lasting (fun wx hx hd => ?_) (fun v67 => ?_)
          · skip
            clear hd
            intro KK hK
            go_simp
            exact hK.out _ _ rfl (Below.refl _ _)
          simp only [Act.put, List.setIfInBounds_toArray, List.set_cons_zero, List.set_cons_succ]
          refine Tab.cons IsV.lasting (fun wx hx hd => ?_) (fun v68 => ?_)
          · skip
            have e67 : v67 = _ := (hd _ (.head _) (by kernel_rfl) : (IsV (.pointer (some ⟨wr.heap.size, 0, none⟩))) v67 wx)
            subst e67
            clear hd
            intro KK hK
            have hcell0 := KE.out _ hx
            go_simp
            exact hK.out _ _ rfl (Below.refl _ _)
          simp only [Act.put, List.setIfInBounds_toArray, List.set_cons_zero, List.set_cons_succ]
          refine Tab.cons IsV.lasting (fun wx hx hd => ?_) (fun v69 => ?_)
          · skip
            have e66 : v66 = _ := (hd _ (.tail _ (.tail _ (.head _))) (by kernel_rfl) : (IsV (.slice (some ⟨b0, o0, none⟩) m0 e0)) v66 wx)
            subst e66
            have e68 : v68 = _ := (hd _ (.head _) (by kernel_rfl) : (IsV (.int .i64 (fr : Int))) v68 wx)
            subst e68
            clear hd
            intro KK hK
            go_simp
            exact hK.out _ _ rfl (Below.refl _ _)
          simp only [Act.put, List.setIfInBounds_toArray, List.set_cons_zero, List.set_cons_succ]
          refine Tab.cons IsV.lasting (fun wx hx hd => ?_) (fun v70 => ?_)
          · skip
            have e69 : v69 = _ := (hd _ (.head _) (by kernel_rfl) : (IsV (.pointer (some ⟨b0, o0 + fr, none⟩))) v69 wx)
            subst e69
            clear hd
            intro KK hK
            have hcell0 := KS.out _ hx
            go_simp
            exact hK.out _ _ rfl (Below.refl _ _)
          simp only [Act.put, List.setIfInBounds_toArray, List.set_cons_zero, List.set_cons_succ]
          refine Tab.cons IsV.lasting (fun wx hx hd => ?_) (fun v71 => ?_)
          · skip
            clear hd
            intro KK hK
            go_simp
            exact hK.out _ _ rfl (Below.refl _ _)
          simp only [Act.put, List.setIfInBounds_toArray, List.set_cons_zero, List.set_cons_succ]
          refine Tab.cons IsV.lasting (fun wx hx hd => ?_) (fun v72 => ?_)
          · skip
            clear hd
            intro KK hK
            go_simp
            exact hK.out _ _ rfl (Below.refl _ _)
          simp only [Act.put, List.setIfInBounds_toArray, List.set_cons_zero, List.set_cons_succ]
          refine Tab.cons IsV.lasting (fun wx hx hd => ?_) (fun v73 => ?_)
          · skip
            have e71 : v71 = _ := (hd _ (.tail _ (.head _)) (by kernel_rfl) : (IsV (.slice (some ⟨bV, oV, none⟩) n c)) v71 wx)
            subst e71
            have e72 : v72 = _ := (hd _ (.head _) (by kernel_rfl) : (IsV (.int .i64 (i : Int))) v72 wx)
            subst e72
            clear hd
            intro KK hK
            go_simp
            exact hK.out _ _ rfl (Below.refl _ _)
          simp only [Act.put, List.setIfInBounds_toArray, List.set_cons_zero, List.set_cons_succ]
          refine Tab.cons IsV.lasting (fun wx hx hd => ?_) (fun v74 => ?_)
          · skip
            have e73 : v73 = _ := (hd _ (.head _) (by kernel_rfl) : (IsV (.pointer (some ⟨bV, oV + i, none⟩))) v73 wx)
            subst e73
            clear hd
            intro KK hK
            have hcell0 := KV.out _ hx
            go_simp
            exact hK.out _ _ rfl (Below.refl _ _)
          simp only [Act.put, List.setIfInBounds_toArray, List.set_cons_zero, List.set_cons_succ]
          refine Tab.cons IsV.lasting (fun wx hx hd => ?_) (fun v75 => ?_)
          · skip
            clear hd
            intro KK hK
            go_simp
            exact hK.out _ _ rfl (Below.refl _ _)
          simp only [Act.put, List.setIfInBounds_toArray, List.set_cons_zero, List.set_cons_succ]
          refine Tab.cons IsV.lasting (fun wx hx hd => ?_) (fun v76 => ?_)
          · skip
            have e74 : v74 = _ := (hd _ (.tail _ (.head _)) (by kernel_rfl) : (IsV (.slice (some ⟨bi, oi, none⟩) nj ei)) v74 wx)
            subst e74
            have e75 : v75 = _ := (hd _ (.head _) (by kernel_rfl) : (IsV (.int .i64 (m : Int))) v75 wx)
            subst e75
            clear hd
            intro KK hK
            go_simp
            exact hK.out _ _ rfl (Below.refl _ _)
          simp only [Act.put, List.setIfInBounds_toArray, List.set_cons_zero, List.set_cons_succ]
          refine Tab.cons IsV.lasting (fun wx hx hd => ?_) (fun v77 => ?_)
          · skip
            have e76 : v76 = _ := (hd _ (.head _) (by kernel_rfl) : (IsV (.pointer (some ⟨bi, oi + m, none⟩))) v76 wx)
            subst e76
            clear hd
            intro KK hK
            have hcell0 := KX.out _ hx
            go_simp
            exact hK.out _ _ rfl (Below.refl _ _)
          simp only [Act.put, List.setIfInBounds_toArray, List.set_cons_zero, List.set_cons_succ]
          refine Tab.cons IsNum.lasting (fun wx hx hd => ?_) (fun v78 => ?_)
          · skip
            have e62 : v62 = _ := (hd _ (.tail _ (.tail _ (.tail _ (.tail _ (.tail _ (.tail _ (.tail _ (.tail _ (.tail _ (.tail _ (.tail _ (.tail _ (.tail _ (.tail _ (.tail _ (.head _)))))))))))))))) (by kernel_rfl) : (IsV (.iface 39 (.agg #[]))) v62 wx)
            subst e62
            have e70 : v70 = _ := (hd _ (.tail _ (.tail _ (.tail _ (.tail _ (.tail _ (.tail _ (.tail _ (.head _)))))))) (by kernel_rfl) : (IsV (.slice AS nS cS)) v70 wx)
            subst e70
            have e77 : v77 = _ := (hd _ (.head _) (by kernel_rfl) : (IsV (.slice AX nX cX)) v77 wx)
            subst e77
            clear hd
            intro KK hK
            go_simp
            refine (counting_mul (RS.out.below hx.out) (RX.out.below hx.out) (by omega) (by omega)).mono ?_
            rintro e w' ⟨A', n', c', rfl, h', hb', hn'⟩
            exact hK.out _ _ ⟨A', n', c', rfl, by simpa only [val_limbs] using h', by omega⟩ hb'
          simp only [Act.put, List.setIfInBounds_toArray, List.set_cons_zero, List.set_cons_succ]
          refine Tab.cons IsV.lasting (fun wx hx hd => ?_) (fun v79 => ?_)
          · skip
            clear hd
            intro KK hK
            go_simp
            exact hK.out _ _ rfl (Below.refl _ _)
          simp only [Act.put, List.setIfInBounds_toArray, List.set_cons_zero, List.set_cons_succ]
          refine Tab.cons IsV.lasting (fun wx hx hd => ?_) (fun v80 => ?_)
          · skip
            clear hd
            intro KK hK
            go_simp
            exact hK.out _ _ rfl (Below.refl _ _)
          simp only [Act.put, List.setIfInBounds_toArray, List.set_cons_zero, List.set_cons_succ]
          refine Tab.cons IsV.lasting (fun wx hx hd => ?_) (fun v81 => ?_)
          · skip
            have e80 : v80 = _ := (hd _ (.head _) (by kernel_rfl) : (IsV (.int .i64 (i : Int))) v80 wx)
            subst e80
            clear hd
            intro KK hK
            go_simp
            rw [show IntKind.i64.wrap ((i : Int) + 1) = ((i : Int) + 1) from IntWalk.i64_in _ (by omega)]
            exact hK.out _ _ rfl (Below.refl _ _)
          simp only [Act.put, List.setIfInBounds_toArray, List.set_cons_zero, List.set_cons_succ]
          refine Tab.cons IsV.lasting (fun wx hx hd => ?_) (fun v82 => ?_)
          · skip
            have e79 : v79 = _ := (hd _ (.tail _ (.tail _ (.head _))) (by kernel_rfl) : (IsV (.slice (some ⟨bK, oK, none⟩) nb cb)) v79 wx)
            subst e79
            have e81 : v81 = _ := (hd _ (.head _) (by kernel_rfl) : (IsV (.int .i64 ((i : Int) + 1))) v81 wx)
            subst e81
            clear hd
            intro KK hK
            go_simp
            exact hK.out _ _ rfl (Below.refl _ _)
          simp only [Act.put, List.setIfInBounds_toArray, List.set_cons_zero, List.set_cons_succ]
          refine Tab.cons IsV.lasting (fun wx hx hd => ?_) (fun v83 => ?_)
          · skip
            have e82 : v82 = _ := (hd _ (.head _) (by kernel_rfl) : (IsV (.pointer (some ⟨bK, oK + (i + 1), none⟩))) v82 wx)
            subst e82
            clear hd
            intro KK hK
            have hcell0 := K1.out _ hx
            go_simp
            exact hK.out _ _ rfl (Below.refl _ _)
          simp only [Act.put, List.setIfInBounds_toArray, List.set_cons_zero, List.set_cons_succ]
          refine Tab.cons IsV.lasting (fun wx hx hd => ?_) (fun v84 => ?_)
          · skip
            clear hd
            intro KK hK
            go_simp
            exact hK.out _ _ rfl (Below.refl _ _)
          simp only [Act.put, List.setIfInBounds_toArray, List.set_cons_zero, List.set_cons_succ]
          refine Tab.cons IsV.lasting (fun wx hx hd => ?_) (fun v85 => ?_)
          · skip
            have e84 : v84 = _ := (hd _ (.head _) (by kernel_rfl) : (IsV (.pointer (some ⟨wr.heap.size, 2, none⟩))) v84 wx)
            subst e84
            clear hd
            intro KK hK
            have hcell0 := KT.out _ hx
            go_simp
            exact hK.out _ _ rfl (Below.refl _ _)
          simp only [Act.put, List.setIfInBounds_toArray, List.set_cons_zero, List.set_cons_succ]
          refine Tab.cons IsV.lasting (fun wx hx hd => ?_) (fun v86 => ?_)
          · skip
            have e83 : v83 = _ := (hd _ (.tail _ (.tail _ (.head _))) (by kernel_rfl) : (IsV (.slice (some ⟨b1, o1', none⟩) m1 e1)) v83 wx)
            subst e83
            have e85 : v85 = _ := (hd _ (.head _) (by kernel_rfl) : (IsV (.int .i64 (tt : Int))) v85 wx)
            subst e85
            clear hd
            intro KK hK
            go_simp
            exact hK.out _ _ rfl (Below.refl _ _)
          simp only [Act.put, List.setIfInBounds_toArray, List.set_cons_zero, List.set_cons_succ]
          refine Tab.cons IsV.lasting (fun wx hx hd => ?_) (fun v87 => ?_)
          · skip
            have e86 : v86 = _ := (hd _ (.head _) (by kernel_rfl) : (IsV (.pointer (some ⟨b1, o1' + tt, none⟩))) v86 wx)
            subst e86
            clear hd
            intro KK hK
            have hcell0 := KY.out _ hx
            go_simp
            exact hK.out _ _ rfl (Below.refl _ _)
          simp only [Act.put, List.setIfInBounds_toArray, List.set_cons_zero, List.set_cons_succ]
          refine Tab.cons IsNum.lasting (fun wx hx hd => ?_) (fun v88 => ?_)
          · skip
            have e60 : v60 = _ := (hd _ (.tail _ (.tail _ (.tail _ (.tail _ (.tail _ (.tail _ (.tail _ (.tail _ (.tail _ (.tail _ (.tail _ (.tail _ (.tail _ (.tail _ (.tail _ (.tail _ (.tail _ (.tail _ (.tail _ (.tail _ (.tail _ (.tail _ (.tail _ (.tail _ (.tail _ (.tail _ (.tail _ (.head _)))))))))))))))))))))))))))) (by kernel_rfl) : (IsV (.iface 39 (.agg #[]))) v60 wx)
            subst e60
            obtain ⟨A78, n78, c78, rfl, h78, k78⟩ := (hd _ (.tail _ (.tail _ (.tail _ (.tail _ (.tail _ (.tail _ (.tail _ (.tail _ (.tail _ (.head _)))))))))) (by kernel_rfl) : (IsNum (s * x) 202) v78 wx)
            have e87 : v87 = _ := (hd _ (.head _) (by kernel_rfl) : (IsV (.slice AY nY cY)) v87 wx)
            subst e87
            clear hd
            intro KK hK
            go_simp
            refine (counting_mul h78 (RY.out.below hx.out) (by omega) (by omega)).mono ?_
            rintro e w' ⟨A', n', c', rfl, h', hb', hn'⟩
            exact hK.out _ _ ⟨A', n', c', rfl, by simpa only [val_limbs] using h', by omega⟩ hb'
          simp only [Act.put, List.setIfInBounds_toArray, List.set_cons_zero, List.set_cons_succ]
          refine Tab.cons IsS1.lasting (fun wx hx hd => ?_) (fun v89 => ?_)
          · skip
            obtain ⟨A88, n88, c88, rfl, h88, k88⟩ := (hd _ (.head _) (by kernel_rfl) : (IsNum (s * x * y) 402) v88 wx)
            clear hd
            intro KK hK
            go_simp
            exact hK.out _ _ ⟨wx.heap.size, A88, n88, c88, rfl, by rw [cell_of_row _ _ _ _ _ _ (heap_alloc_new wx _)]; rfl, h88.below (below_alloc _ _), k88⟩ (below_alloc _ _)
          simp only [Act.put, List.setIfInBounds_toArray, List.set_cons_zero, List.set_cons_succ]
          refine Tab.nil fun wx hx hd => ?_
          have e53 : v53 = _ := (hd _ (.tail _ (.tail _ (.tail _ (.tail _ (.tail _ (.tail _ (.tail _ (.tail _ (.tail _ (.tail _ (.tail _ (.tail _ (.tail _ (.tail _ (.tail _ (.tail _ (.tail _ (.tail _ (.tail _ (.tail _ (.tail _ (.tail _ (.tail _ (.tail _ (.tail _ (.tail _ (.tail _ (.tail _ (.tail _ (.tail _ (.tail _ (.tail _ (.tail _ (.tail _ (.tail _ (.tail _ (.head _))))))))))))))))))))))))))))))))))))) : (IsV (.slice (some ⟨W2.heap.size, 0, none⟩) nE nE)) v53 wx)
          subst e53
          have e54 : v54 = _ := (hd _ (.tail _ (.tail _ (.tail _ (.tail _ (.tail _ (.tail _ (.tail _ (.tail _ (.tail _ (.tail _ (.tail _ (.tail _ (.tail _ (.tail _ (.tail _ (.tail _ (.tail _ (.tail _ (.tail _ (.tail _ (.tail _ (.tail _ (.tail _ (.tail _ (.tail _ (.tail _ (.tail _ (.tail _ (.tail _ (.tail _ (.tail _ (.tail _ (.tail _ (.tail _ (.tail _ (.head _)))))))))))))))))))))))))))))))))))) : (IsV (.int .i64 (i : Int))) v54 wx)
          subst e54
          have e58 : v58 = _ := (hd _ (.tail _ (.tail _ (.tail _ (.tail _ (.tail _ (.tail _ (.tail _ (.tail _ (.tail _ (.tail _ (.tail _ (.tail _ (.tail _ (.tail _ (.tail _ (.tail _ (.tail _ (.tail _ (.tail _ (.tail _ (.tail _ (.tail _ (.tail _ (.tail _ (.tail _ (.tail _ (.tail _ (.tail _ (.tail _ (.tail _ (.tail _ (.head _)))))))))))))))))))))))))))))))) : (IsV (v0)) v58 wx)
          subst e58
          obtain ⟨b89, A89, n89, c89, rfl, e89, h89, k89⟩ := (hd _ (.head _) : (IsS1 (s * x * y) 402) v89 wx)
          clear hd
          have hB9 := HS2.out.trans (hx.out.mono HS2.out.size)
          have hlz9 : W2.heap.size < wx.heap.size := Nat.lt_of_lt_of_le HLZ9.out hx.out.size
          have hrowsx := HG1.out.below hx.out
          have hownx := ownsRow_keep HM.out hx.out (Nat.le_refl _)
          have hpx : PureV vs nE wx := fun i9 hi9 b9 hb9 => by
            obtain ⟨m9, hm9⟩ := HG1.out.inner i9 hi9
            exact (HPV.out i9 hi9 b9 hb9).keep hx.out (hm9.lt b9 hb9).2
          have hpx0 : ∀ b, v58.ownBlock = some b → NoU wx b := fun b9 hb9 => hpx i hlt b9 (by rw [HV0.out]; exact hb9)
          clear q1 q2 q3 q6 q8
          go_wp2_with (at_builtin; refine wpList_append_pure _ rfl _ _ _ rfl W2.heap.size 37 i0 _ 24 Try.underlying44 hy0 hy1 hy2 hy3 rfl (by intro x e; cases e) v58 m _ rfl hownx hpx0 ⟨b89, 0, none⟩ 1 (.slice A89 n89 c89) rfl e89 rfl rfl (by intro x e; cases e) (by unfold maxLen; omega) (by omega) hB9.size ?_; intro gA cap w1 hown1 hgrow hat hlt1 hno1; have happ := hrowsx.appended hlt hown1 (by rw [HV0.out]; exact hgrow) (by rw [HV0.out]; exact hat); have hcell1 := happ.2.1; have hfr1 := happ.2.2; rw [HV0.out] at hcell1; clear happ)
          have hmore := (HG.out.below hx.out).more hlt hrowsx ⟨HG34.out.1, fun j9 k9 hj9 hk9 => (natC 402).last _ _ _ _ hx.out (HG34.out.2 j9 k9 hj9 hk9)⟩ (N := s * x * y) hown1 (by rw [HV0.out]; exact hgrow) (by rw [HV0.out]; exact hat) hpx ⟨A89, n89, c89, rfl, h89, k89⟩ hno1
          rw [HROW.out, rowsBy_set hlt, ← HTK.out] at hmore
          have hBA := (hB9.grown hgrow hB9.size (fun k9 hk9 => HVB.out k9 hk9)).setCell (p := ⟨W2.heap.size, i, none⟩) (Nat.le_refl _) (.slice (some ⟨gA, 0, none⟩) (m + 1) cap)
          have HMORE := hide (And.intro hmore hBA)
          clear hgrow hat hown1 hno1 hmore hBA hrowsx hownx hpx hpx0 hB9 e89 h89 k89
          refine NoPanic.normal ?_
          go_wp2
          go_roundw
          case rel => exact ⟨m + 1, _, by omega, by go_num, HMORE.out.1.1, HMORE.out.1.2, HMORE.out.2⟩
          case measure => simp [intOf]; omega
        · obtain rfl : j = nj := by omega
          have hall : (thr F0 B0 i es xs).take j = thr F0 B0 i es xs := List.take_of_length_le (by rw [thr_len (by rw [HL.out, HLV.out]; omega), HL.out]; exact Nat.le_refl _)
          rw [hall, HNX.out] at hG
          clear hall
          go_wp2
          go_roundw
          case rel => exact ⟨i + 1, vs, by omega, by go_num, by rw [HFD.out]; exact hG, hPV, hS2⟩
          case measure => simp [intOf]; omega
    · obtain rfl : i = nE := by omega
      have hend := rowsBy_end (fun i => thr F0 B0 i (ee.getD i []) (V.getD i [])) i
      rw [hend, ← HFN.out] at hG
      clear hend
      go_wp2
      go_ret2
      exact ⟨_, _, _, vs, rfl, hG.lower hSW.size, below_step hS1 hSW⟩
end Go.Proofs.Ytjadgomakoaibaa
